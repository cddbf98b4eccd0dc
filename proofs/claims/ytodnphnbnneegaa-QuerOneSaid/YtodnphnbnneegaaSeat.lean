import Derived.Test.YtodnphnbnneegaaVL21
import Derived.Test.YtodnphnbnneegaaCode
set_option linter.unusedVariables false
set_option linter.unusedSimpArgs false
set_option maxHeartbeats 4000000
namespace Go.Proofs.Ytodnphnbnneegaa.VL
open Go.RowKit Go.Proofs

def avSeat (w a : Int) : AV := .agg [.lit (.int .i64 w), .lit (.int .u32 a)]
def better (w a w' a' : Int) : Bool := decide (w' < w) || (w == w' && decide (a' < a))

theorem C_Better (w a w' a' : Int) : AC Try.prog f_seat_Better [avSeat w a, avSeat w' a'] (.lit (.bool (better w a w' a'))) := by
  refine ac_seat_Better ?_ (Nat.le_add_left 2 22)
  simp only [go_sem, Nat.reduceAdd, Nat.reduceLT, Nat.reduceEqDiff, Nat.reduceBEq, Nat.reduceLeDiff, Nat.reduceSub, Int.reduceToNat, reduceCtorEq, ↓reduceIte, c_seat_Better, avSeat]
  refine guardX_of' (fun h1 => ?_) (fun h1 => ?_)
  · simp only [go_sem, Nat.reduceAdd, Nat.reduceLT, Nat.reduceEqDiff, Nat.reduceBEq, Nat.reduceLeDiff, Nat.reduceSub, Int.reduceToNat, reduceCtorEq, ↓reduceIte, h1]
    simp [better, h1]
  · simp only [go_sem, Nat.reduceAdd, Nat.reduceLT, Nat.reduceEqDiff, Nat.reduceBEq, Nat.reduceLeDiff, Nat.reduceSub, Int.reduceToNat, reduceCtorEq, ↓reduceIte, h1]
    refine guardX_of (fun h2 => ?_) (fun h2 => ?_)
    · simp only [go_sem, Nat.reduceAdd, Nat.reduceLT, Nat.reduceEqDiff, Nat.reduceBEq, Nat.reduceLeDiff, Nat.reduceSub, Int.reduceToNat, reduceCtorEq, ↓reduceIte, h1, h2]
      simp [better, h1, h2]
    · simp only [go_sem, Nat.reduceAdd, Nat.reduceLT, Nat.reduceEqDiff, Nat.reduceBEq, Nat.reduceLeDiff, Nat.reduceSub, Int.reduceToNat, reduceCtorEq, ↓reduceIte, h1, h2]
      simp [better, h1, h2]

/-! ### seat.Best -/
def avS (p : Int × Int) : AV := avSeat p.1 p.2
def betterP (p q : Int × Int) : Bool := better p.1 p.2 q.1 q.2

def bestAt (l : List (Int × Int)) : Nat → Nat
  | 0 => 0
  | k + 1 => match l[k]?, l[bestAt l k]? with
    | some p, some q => if betterP p q then k else bestAt l k
    | _, _ => bestAt l k

theorem bestAt_le (l : List (Int × Int)) : ∀ k, bestAt l k ≤ k
  | 0 => Nat.le_refl _
  | k + 1 => by
    have := bestAt_le l k
    simp only [bestAt]
    split
    · split <;> omega
    · omega

theorem wrap_nat (n : Nat) (h : n < 9223372036854775808) : IntKind.i64.wrap (n : Int) = n := by
  have := (IntKind.wrap_i64 (n : Int))
  omega

theorem wrap_succ (k : Nat) (h : k + 1 < 9223372036854775808) : IntKind.i64.wrap ((k : Int) + 1) = ((k + 1 : Nat) : Int) := wrap_nat (k + 1) h

theorem C_Best (t : Tok) (l : List (Int × Int)) (hl : l.length < 9223372036854775808) :
    AC Try.prog f_seat_Best [.sl t 2 (l.map avS)] (.tup [.lit (.int .i64 (bestAt l l.length)), .lit (.bool (decide (0 < l.length)))]) := by
  refine ac_seat_Best ?_ (Nat.le_add_left 1 25)
  simp only [go_sem, Nat.reduceAdd, Nat.reduceLT, Nat.reduceEqDiff, Nat.reduceBEq, Nat.reduceLeDiff, Nat.reduceSub, Int.reduceToNat, reduceCtorEq, ↓reduceIte, c_seat_Best]
  refine aw_loop (fun m E => ∃ k, k + m = l.length ∧ E = mkE [(0, .sl t 2 (l.map avS)), (4, .lit (.int .i64 (bestAt l k))), (7, .sl t 2 (l.map avS)), (8, .lit (.int .i64 l.length)), (9, .lit (.int .i64 (k : Nat)))] []) l.length ?_ ?_
  · refine ⟨0, by omega, ?_⟩
    simp only [go_sem, Nat.reduceAdd, Nat.reduceLT, Nat.reduceEqDiff, Nat.reduceBEq, Nat.reduceLeDiff, Nat.reduceSub, Int.reduceToNat, reduceCtorEq, ↓reduceIte, bestAt, Int.ofNat_zero]
  · rintro m _ ⟨k, hk, rfl⟩
    simp only [go_sem, Nat.reduceAdd, Nat.reduceLT, Nat.reduceEqDiff, Nat.reduceBEq, Nat.reduceLeDiff, Nat.reduceSub, Int.reduceToNat, reduceCtorEq, ↓reduceIte]
    refine condX_of (fun h => ?_) (fun h => ?_)
    · have hkl : k < l.length := by simpa using h
      obtain ⟨p, hp⟩ : ∃ p, l[k]? = some p := ⟨l[k], List.getElem?_eq_getElem hkl⟩
      have hb := bestAt_le l k
      obtain ⟨q, hq⟩ : ∃ q, l[bestAt l k]? = some q := ⟨l[bestAt l k], List.getElem?_eq_getElem (by omega)⟩
      simp only [go_sem, Nat.reduceAdd, Nat.reduceLT, Nat.reduceEqDiff, Nat.reduceBEq, Nat.reduceLeDiff, Nat.reduceSub, Int.reduceToNat, reduceCtorEq, ↓reduceIte, h, hp, hq, Int.toNat_natCast, Int.natCast_nonneg, avS, avSeat, List.getElem?_map]
      refine callX_of (C_Better _ _ _ _) ?_
      simp only [go_sem, Nat.reduceAdd, Nat.reduceLT, Nat.reduceEqDiff, Nat.reduceBEq, Nat.reduceLeDiff, Nat.reduceSub, Int.reduceToNat, reduceCtorEq, ↓reduceIte, h, hp, hq, Int.toNat_natCast, Int.natCast_nonneg, avS, avSeat, List.getElem?_map]
      have hw := wrap_succ k (by omega)
      refine condX_of (fun h2 => ?_) (fun h2 => ?_)
      · simp only [go_sem, Nat.reduceAdd, Nat.reduceLT, Nat.reduceEqDiff, Nat.reduceBEq, Nat.reduceLeDiff, Nat.reduceSub, Int.reduceToNat, reduceCtorEq, ↓reduceIte, hw]
        refine ⟨m - 1, by omega, k + 1, by omega, ?_⟩
        simp only [bestAt, hp, hq, betterP, h2, if_true]
      · simp only [go_sem, Nat.reduceAdd, Nat.reduceLT, Nat.reduceEqDiff, Nat.reduceBEq, Nat.reduceLeDiff, Nat.reduceSub, Int.reduceToNat, reduceCtorEq, ↓reduceIte, hw]
        refine ⟨m - 1, by omega, k + 1, by omega, ?_⟩
        simp only [bestAt, hp, hq, betterP, h2, if_false, Bool.false_eq_true]
    · have hkl : k = l.length := by have : ¬ k < l.length := by simpa using h
                                    omega
      subst hkl
      simp only [go_sem, Nat.reduceAdd, Nat.reduceLT, Nat.reduceEqDiff, Nat.reduceBEq, Nat.reduceLeDiff, Nat.reduceSub, Int.reduceToNat, reduceCtorEq, ↓reduceIte, h]
      simp

/-! ### Number -/
theorem C_Number (n b : Int) (hb : 0 < b) (hb' : b < 9223372036854775808) : AC Try.prog f_rivuletworld_Number [.lit (.int .i64 n), .lit (.int .i64 b)] (.lit (.int .i64 (n % b))) := by
  refine ac_rivuletworld_Number ?_ (Nat.le_add_left 2 13)
  have h0 : (b == 0) = false := by simp; omega
  simp only [go_sem, Nat.reduceAdd, Nat.reduceLT, Nat.reduceEqDiff, Nat.reduceBEq, Nat.reduceLeDiff, Nat.reduceSub, Int.reduceToNat, reduceCtorEq, ↓reduceIte, c_rivuletworld_Number, h0]
  have e0 := Int.emod_nonneg n (show b ≠ 0 by omega)
  have e1 := Int.emod_lt_of_pos n hb
  have key : n.tmod b = n % b ∧ 0 ≤ n ∨ n.tmod b = n % b ∧ n % b = 0 ∨ n.tmod b = n % b - b ∧ ¬ n % b = 0 := by
    rw [Int.tmod_eq_emod]
    by_cases h1 : 0 ≤ n
    · simp [h1]
    · by_cases h2 : b ∣ n
      · have := Int.emod_eq_zero_of_dvd h2
        simp [h2, this]
      · have h3 : ¬ n % b = 0 := fun h => h2 (Int.dvd_of_emod_eq_zero h)
        have h4 : (b.natAbs : Int) = b := by omega
        simp only [h1, h2, or_self, if_false, h4]
        exact .inr (.inr ⟨trivial, h3⟩)
  refine condX_of (fun h => ?_) (fun h => ?_)
  · have h' : n.tmod b < 0 := by simpa using h
    have hw : IntKind.i64.wrap (n.tmod b + b) = n % b := by
      rw [IntKind.wrap_i64]
      omega
    simp only [go_sem, Nat.reduceAdd, Nat.reduceLT, Nat.reduceEqDiff, Nat.reduceBEq, Nat.reduceLeDiff, Nat.reduceSub, Int.reduceToNat, reduceCtorEq, ↓reduceIte, hw]
  · have h' : ¬ n.tmod b < 0 := by simpa using h
    have hw : n.tmod b = n % b := by
      omega
    simp only [go_sem, Nat.reduceAdd, Nat.reduceLT, Nat.reduceEqDiff, Nat.reduceBEq, Nat.reduceLeDiff, Nat.reduceSub, Int.reduceToNat, reduceCtorEq, ↓reduceIte, hw]

/-! ### first -/
theorem C_first12 : AC Try.prog f_rivuletlaw12_first [] (.lit (.bool true)) := by
  refine ac_rivuletlaw12_first ?_ (Nat.zero_le 24)
  simp only [go_sem, Nat.reduceAdd, Nat.reduceLT, Nat.reduceEqDiff, Nat.reduceBEq, Nat.reduceLeDiff, Nat.reduceSub, Int.reduceToNat, reduceCtorEq, ↓reduceIte, c_rivuletlaw12_first]
  refine callX_of (C_Best .none [(1, 0)] (by decide)) ?_
  simp only [go_sem, Nat.reduceAdd, Nat.reduceLT, Nat.reduceEqDiff, Nat.reduceBEq, Nat.reduceLeDiff, Nat.reduceSub, Int.reduceToNat, reduceCtorEq, ↓reduceIte, c_rivuletlaw12_first]
  refine callX_of ((C_Best .none [] (by decide)).nil [] (by simp)) ?_
  have e : ((bestAt [(1, 0)] 1 : Nat) : Int) = 0 := by rfl
  simp only [go_sem, Nat.reduceAdd, Nat.reduceLT, Nat.reduceEqDiff, Nat.reduceBEq, Nat.reduceLeDiff, Nat.reduceSub, Int.reduceToNat, reduceCtorEq, ↓reduceIte, c_rivuletlaw12_first, e, Int.reduceBEq, Nat.lt_irrefl]

/-! ### SeatOrder: what it computes is true -/
theorem better_asym (p q : Int × Int) (h : betterP p q = true) : betterP q p = false := by
  simp only [betterP, better, Bool.or_eq_true, Bool.and_eq_true, decide_eq_true_eq, beq_iff_eq, Bool.or_eq_false_iff, decide_eq_false_iff_not, Bool.and_eq_false_iff, beq_eq_false_iff_ne, ne_eq] at h ⊢
  omega
theorem better_total (p q : Int × Int) : (betterP p q || betterP q p) = !(p.1 == q.1 && p.2 == q.2) := by
  rw [Bool.eq_iff_iff]
  simp only [betterP, better, Bool.or_eq_true, Bool.and_eq_true, decide_eq_true_eq, beq_iff_eq, Bool.not_eq_true', Bool.and_eq_false_iff, beq_eq_false_iff_ne, ne_eq]
  omega
theorem better_trans (p q r : Int × Int) (h : betterP p q = true) (h' : betterP q r = true) : betterP p r = true := by
  simp only [betterP, better, Bool.or_eq_true, Bool.and_eq_true, decide_eq_true_eq, beq_iff_eq] at h h' ⊢
  omega
/-- Not worse is a chain, too. -/
theorem better_ntrans (p q r : Int × Int) (h : betterP p q = false) (h' : betterP q r = false) : betterP p r = false := by
  simp only [betterP, better, Bool.or_eq_false_iff, decide_eq_false_iff_not, Bool.and_eq_false_iff, beq_eq_false_iff_ne, ne_eq] at h h' ⊢
  omega
theorem better_irr (p : Int × Int) : betterP p p = false := by simp [betterP, better]

/-- Nobody ahead of k is better than the best. -/
theorem bestAt_best (l : List (Int × Int)) : ∀ k, k ≤ l.length → ∀ i p q, i < k → l[i]? = some p → l[bestAt l k]? = some q → betterP p q = false
  | 0, _, i, p, q, hi, _, _ => absurd hi (Nat.not_lt_zero i)
  | k + 1, hk, i, p, q, hi, hp, hq => by
    obtain ⟨x, hx⟩ : ∃ x, l[k]? = some x := ⟨l[k], List.getElem?_eq_getElem (by omega)⟩
    have hb := bestAt_le l k
    obtain ⟨y, hy⟩ : ∃ y, l[bestAt l k]? = some y := ⟨l[bestAt l k], List.getElem?_eq_getElem (by omega)⟩
    have ih := fun i p hi hp => bestAt_best l k (by omega) i p y hi hp hy
    simp only [bestAt, hx, hy] at hq
    cases hxy : betterP x y with
    | true =>
      simp only [hxy, if_true, hx, Option.some.injEq] at hq
      subst hq
      by_cases hik : i = k
      · subst hik
        rw [hx] at hp
        injection hp with hp
        subst hp
        exact better_irr _
      · exact better_ntrans p y x (ih i p (by omega) hp) (better_asym x y hxy)
    | false =>
      simp only [hxy, Bool.false_eq_true, if_false, hy, Option.some.injEq] at hq
      subst hq
      by_cases hik : i = k
      · subst hik
        rw [hx] at hp
        injection hp with hp
        subst hp
        exact hxy
      · exact ih i p (by omega) hp

/-- The first of equals is it. -/
theorem bestAt_first (l : List (Int × Int)) : ∀ k, k ≤ l.length → ∀ i p q, i < bestAt l k → l[i]? = some p → l[bestAt l k]? = some q → betterP q p = true
  | 0, _, i, p, q, hi, _, _ => absurd hi (Nat.not_lt_zero i)
  | k + 1, hk, i, p, q, hi, hp, hq => by
    obtain ⟨x, hx⟩ : ∃ x, l[k]? = some x := ⟨l[k], List.getElem?_eq_getElem (by omega)⟩
    have hb := bestAt_le l k
    obtain ⟨y, hy⟩ : ∃ y, l[bestAt l k]? = some y := ⟨l[bestAt l k], List.getElem?_eq_getElem (by omega)⟩
    simp only [bestAt, hx, hy] at hq hi
    cases hxy : betterP x y with
    | true =>
      simp only [hxy, if_true, hx, Option.some.injEq] at hq hi
      subst hq
      have h1 := bestAt_best l k (by omega) i p y hi hp hy
      cases h2 : betterP x p with
      | true => rfl
      | false => rw [better_ntrans x p y h2 h1] at hxy; cases hxy
    | false =>
      simp only [hxy, Bool.false_eq_true, if_false, hy, Option.some.injEq] at hq hi
      subst hq
      exact bestAt_first l k (by omega) i p y hi hp hy

end Go.Proofs.Ytodnphnbnneegaa.VL
