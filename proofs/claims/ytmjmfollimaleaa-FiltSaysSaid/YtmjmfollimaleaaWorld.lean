/- rivuletworld: contracts. -/
import Derived.Test.YtmjmfollimaleaaVL23
import Derived.Test.YtmjmfollimaleaaCode
set_option linter.unusedVariables false
set_option linter.unusedSimpArgs false
set_option maxHeartbeats 4000000
namespace Go.Proofs.Ytmjmfollimaleaa.VL
open Go.RowKit Go.Proofs

theorem wrap_nat (n : Nat) (h : n < 9223372036854775808) : IntKind.i64.wrap (n : Int) = n := by
  have := (IntKind.wrap_i64 (n : Int))
  omega

theorem wrap_succ (k : Nat) (h : k + 1 < 9223372036854775808) : IntKind.i64.wrap ((k : Int) + 1) = ((k + 1 : Nat) : Int) := wrap_nat (k + 1) h

/-! ### Number -/
theorem C_Number (n b : Int) (hb : 0 < b) (hb' : b < 9223372036854775808) : AC Try.prog f_rivuletworld_Number [.lit (.int .i64 n), .lit (.int .i64 b)] (.lit (.int .i64 (n % b))) := by
  refine ac_rivuletworld_Number ?_ (Nat.le_add_left 2 13)
  have h0 : (b == 0) = false := by simp; omega
  simp only [go_sem, Nat.reduceAdd, Nat.reduceLT, Nat.reduceEqDiff, Nat.reduceBEq, Nat.reduceLeDiff, Nat.reduceSub, Int.reduceToNat, reduceCtorEq, ↓reduceIte, c_rivuletworld_Number, h0]
  have e0 := Int.emod_nonneg n (show b ≠ 0 by omega)
  have e1 := Int.emod_lt_of_pos n hb
  have key : n.tmod b = n % b ∧ 0 ≤ n ∨ n.tmod b = n % b ∧ n % b = 0 ∨ n.tmod b = n % b - b ∧ ¬ n % b = 0 := by
    rw [Int.tmod_eq_emod]
    by_cases h1 : 0 ≤ n
    · simp [h1]
    · by_cases h2 : b ∣ n
      · have := Int.emod_eq_zero_of_dvd h2
        simp [h2, this]
      · have h3 : ¬ n % b = 0 := fun h => h2 (Int.dvd_of_emod_eq_zero h)
        have h4 : (b.natAbs : Int) = b := by omega
        simp only [h1, h2, or_self, if_false, h4]
        exact .inr (.inr ⟨trivial, h3⟩)
  refine condX_of (fun h => ?_) (fun h => ?_)
  · have h' : n.tmod b < 0 := by simpa using h
    have hw : IntKind.i64.wrap (n.tmod b + b) = n % b := by
      rw [IntKind.wrap_i64]
      omega
    simp only [go_sem, Nat.reduceAdd, Nat.reduceLT, Nat.reduceEqDiff, Nat.reduceBEq, Nat.reduceLeDiff, Nat.reduceSub, Int.reduceToNat, reduceCtorEq, ↓reduceIte, hw]
  · have h' : ¬ n.tmod b < 0 := by simpa using h
    have hw : n.tmod b = n % b := by
      omega
    simp only [go_sem, Nat.reduceAdd, Nat.reduceLT, Nat.reduceEqDiff, Nat.reduceBEq, Nat.reduceLeDiff, Nat.reduceSub, Int.reduceToNat, reduceCtorEq, ↓reduceIte, hw]


end Go.Proofs.Ytmjmfollimaleaa.VL
