/- lex.Number; rivuletlaw5.LexNumbers: the walks. -/
import Derived.Test.YtodnphnbnneegaaDoorAddr4
import Derived.Test.YtodnphnbnneegaaDoorAddr6
import Derived.Test.YtodnphnbnneegaaDoorNumLaw
import Derived.Test.YtodnphnbnneegaaDoorLex3
set_option linter.unusedVariables false
set_option linter.unusedSimpArgs false
set_option maxHeartbeats 8000000
namespace Go.Proofs.YtodnphnbnneegaaDoor.VL
open Go.RowKit Go.Proofs

/-- lex.Number -/
def lexV (s : ByteArray) (most : Int) : Int × Option Nat := if 9 < s.size then (0, some 2) else match Lib.atoiAll s.data.toList with
  | .ok v => if v < 0 then (0, some 2) else if itoaB v = s then (if most < v then (0, some 3) else (v, none)) else (0, some 2)
  | _ => (0, some 2)
theorem gs2 : (2 ∈ GS) = True := eq_true (by simp [GS])
theorem gs3 : (3 ∈ GS) = True := eq_true (by simp [GS])

theorem C_lexNumber (s : ByteArray) (most : Int) (hs : s.size ≤ 281474976710656) : AC Tryd.prog f_lex_Number [avStr s, .lit (.int .i64 most)] (.tup [.lit (.int .i64 (lexV s most).1), errO (lexV s most).2]) := by
  refine ac_lex_Number ?_ (Nat.le_add_left 2 _) (by cases (lexV s most).2 <;> rfl)
  have hA := C_Atoi s hs
  unfold atoiR at hA
  unfold lexV
  simp only [go_sem, Nat.reduceAdd, Nat.reduceLT, Nat.reduceEqDiff, Nat.reduceBEq, Nat.reduceLeDiff, Nat.reduceSub, Int.reduceToNat, reduceCtorEq, ↓reduceIte, c_lex_Number, avStr]
  by_cases h9 : 9 < s.size
  · have e9 : ((9 : Int) < (s.size : Int)) = True := eq_true (by omega)
    rw [if_pos h9]
    cases ha : Lib.atoiAll s.data.toList
    all_goals (
      simp only [ha] at hA
      refine callX_of hA ?_
      simp only [go_sem, Nat.reduceAdd, Nat.reduceLT, Nat.reduceEqDiff, Nat.reduceBEq, Nat.reduceLeDiff, Nat.reduceSub, Int.reduceToNat, reduceCtorEq, ↓reduceIte, e9, decide_true, gs2, errO])
  · have e9 : ((9 : Int) < (s.size : Int)) = False := eq_false (by omega)
    rw [if_neg h9]
    cases ha : Lib.atoiAll s.data.toList
    · rename_i v
      simp only [ha] at hA
      refine callX_of hA ?_
      by_cases h0 : v < 0
      · simp only [go_sem, Nat.reduceAdd, Nat.reduceLT, Nat.reduceEqDiff, Nat.reduceBEq, Nat.reduceLeDiff, Nat.reduceSub, Int.reduceToNat, reduceCtorEq, ↓reduceIte, e9, decide_true, decide_false, eq_true h0, gs2, errO]
      · have hv : 0 ≤ v := by omega
        have hI := C_Itoa v.toNat (by
          have := Lib.atoiAll_bounds ha
          omega)
        rw [Int.toNat_of_nonneg hv] at hI
        simp only [go_sem, Nat.reduceAdd, Nat.reduceLT, Nat.reduceEqDiff, Nat.reduceBEq, Nat.reduceLeDiff, Nat.reduceSub, Int.reduceToNat, reduceCtorEq, ↓reduceIte, e9, decide_true, decide_false, eq_false h0, errO]
        refine callX_of hI ?_
        by_cases hq : itoaB v = s
        · have e : ((decB v.toNat).toList == s.toList) = true := by
            rw [str_eq]
            simpa [itoaB] using hq
          by_cases hm : most < v
          · simp only [go_sem, Nat.reduceAdd, Nat.reduceLT, Nat.reduceEqDiff, Nat.reduceBEq, Nat.reduceLeDiff, Nat.reduceSub, Int.reduceToNat, reduceCtorEq, ↓reduceIte, avStr, e, Bool.not_true, eq_true hm, decide_true, if_pos hq, if_pos hm, gs3, errO]
          · simp only [go_sem, Nat.reduceAdd, Nat.reduceLT, Nat.reduceEqDiff, Nat.reduceBEq, Nat.reduceLeDiff, Nat.reduceSub, Int.reduceToNat, reduceCtorEq, ↓reduceIte, avStr, e, Bool.not_true, eq_false hm, decide_false, if_pos hq, if_neg hm, errO]
        · have e : ((decB v.toNat).toList == s.toList) = false := by
            rw [str_eq]
            simpa [itoaB] using hq
          simp only [go_sem, Nat.reduceAdd, Nat.reduceLT, Nat.reduceEqDiff, Nat.reduceBEq, Nat.reduceLeDiff, Nat.reduceSub, Int.reduceToNat, reduceCtorEq, ↓reduceIte, avStr, e, Bool.not_false, if_neg hq, gs2, errO]
    · simp only [ha] at hA
      refine callX_of hA ?_
      simp only [go_sem, Nat.reduceAdd, Nat.reduceLT, Nat.reduceEqDiff, Nat.reduceBEq, Nat.reduceLeDiff, Nat.reduceSub, Int.reduceToNat, reduceCtorEq, ↓reduceIte, e9, decide_true, decide_false, gs2, errO]
    · simp only [ha] at hA
      refine callX_of hA ?_
      simp only [go_sem, Nat.reduceAdd, Nat.reduceLT, Nat.reduceEqDiff, Nat.reduceBEq, Nat.reduceLeDiff, Nat.reduceSub, Int.reduceToNat, reduceCtorEq, ↓reduceIte, e9, decide_true, decide_false, gs2, errO]

theorem decB_data (n : Nat) : (decB n).data.toList = Lib.decDigits n := by simp [decB]
theorem decB_size (n k : Nat) (hk : 0 < k) (h : n < 10 ^ k) : (decB n).size ≤ k := by
  rw [Lib.size_eq, decB_data]
  exact dd_len n k hk h

theorem lexV_dec (n : Nat) (most : Int) (hn : n < 1000000000) : lexV (decB n) most = if most < (n : Int) then (0, some 3) else ((n : Int), none) := by
  have h9 := decB_size n 9 (by decide) hn
  unfold lexV
  rw [if_neg (by omega), decB_data, atoi_dd n (by omega)]
  simp only
  rw [if_neg (by omega), if_pos (by simp [itoaB])]

theorem lexV_bad (s : ByteArray) (most : Int) (h : ∀ n : Nat, Lib.decDigits n ≠ s.data.toList) : lexV s most = (0, some 2) := by
  unfold lexV
  split
  · rfl
  · split
    · rename_i v _
      split
      · rfl
      · rw [if_neg]
        intro e
        exact h v.toNat (by rw [← e]; simp [itoaB, decB])
    · rfl

theorem is_err (i : Nat) (c : Int) (hi : i ∈ sentL) (hc : codeI i = c) : AC Tryd.prog f_rivuletsee_Is [.gl i, .lit (.int .i64 c)] (.lit (.bool true)) := by
  have := C_Is (some i) (fun j hj => by injection hj with hj; subst hj; exact hi) c
  simp only [errO, codeO, hc, beq_self_eq_true] at this
  exact this

theorem AC_LexNumbers (n0 m0 : Int) : AC Tryd.prog f_rivuletlaw5_LexNumbers [.lit (.int .i64 n0), .lit (.int .i64 m0)] (.lit (.bool true)) := by
  refine ac_rivuletlaw5_LexNumbers ?_ (Nat.le_add_left 2 _)
  simp only [go_sem, Nat.reduceAdd, Nat.reduceLT, Nat.reduceEqDiff, Nat.reduceBEq, Nat.reduceLeDiff, Nat.reduceSub, Int.reduceToNat, reduceCtorEq, ↓reduceIte, c_rivuletlaw5_LexNumbers]
  refine callX_of C_first5 ?_
  simp only [go_sem, Nat.reduceAdd, Nat.reduceLT, Nat.reduceEqDiff, Nat.reduceBEq, Nat.reduceLeDiff, Nat.reduceSub, Int.reduceToNat, reduceCtorEq, ↓reduceIte]
  refine callX_of (C_Number n0 1000000000 (by decide) (by decide)) ?_
  have e0 := Int.emod_nonneg n0 (show (1000000000 : Int) ≠ 0 by decide)
  have e1 := Int.emod_lt_of_pos n0 (show (0 : Int) < 1000000000 by decide)
  obtain ⟨n, hn, hn9⟩ : ∃ n : Nat, n0 % 1000000000 = (n : Int) ∧ n < 1000000000 := ⟨(n0 % 1000000000).toNat, by omega, by omega⟩
  simp only [go_sem, Nat.reduceAdd, Nat.reduceLT, Nat.reduceEqDiff, Nat.reduceBEq, Nat.reduceLeDiff, Nat.reduceSub, Int.reduceToNat, reduceCtorEq, ↓reduceIte, hn]
  refine callX_of (C_Number m0 1000000000 (by decide) (by decide)) ?_
  have e2 := Int.emod_nonneg m0 (show (1000000000 : Int) ≠ 0 by decide)
  have e3 := Int.emod_lt_of_pos m0 (show (0 : Int) < 1000000000 by decide)
  obtain ⟨m, hm, hm9⟩ : ∃ m : Nat, m0 % 1000000000 = (m : Int) ∧ m < 1000000000 := ⟨(m0 % 1000000000).toNat, by omega, by omega⟩
  have hs := decB_size n 9 (by decide) hn9
  have hdig := dd_digits n
  have hne := dd_ne n
  have hN := C_Num n (by omega)
  have hB := C_Num 1000000000 (by decide)
  have h1 := C_lexNumber (decB n) (m : Int) (by omega)
  rw [lexV_dec n (m : Int) hn9] at h1
  have cs : ∀ p q : ByteArray, (catB p q).size = p.size + q.size := fun p q => by simp only [catB, ByteArray.size_append]
  have cd : ∀ p q : ByteArray, (catB p q).data.toList = p.data.toList ++ q.data.toList := fun p q => by simp [catB, ByteArray.data_append]
  have z1 : (⟨#[48]⟩ : ByteArray).size = 1 := rfl
  have z2 : (⟨#[45]⟩ : ByteArray).size = 1 := rfl
  have z3 : (⟨#[49]⟩ : ByteArray).size = 1 := rfl
  have hs10 := decB_size 1000000000 10 (by decide) (by decide)
  have b1 : lexV (catB ⟨#[48]⟩ (decB n)) 999999999 = (0, some 2) := by
    refine lexV_bad _ _ fun k hk => ?_
    rw [cd, decB_data] at hk
    exact hne (dd_lead k _ hk)
  have b2 : lexV (catB ⟨#[45]⟩ (decB n)) 999999999 = (0, some 2) := by
    refine lexV_bad _ _ fun k hk => ?_
    rw [cd, decB_data] at hk
    have := dd_digits k 45 (by rw [hk]; exact List.mem_cons_self)
    exact absurd this.1 (by decide)
  have hbig : (decB 1000000000).size = 10 := by decide +kernel
  have b3 : lexV (catB ⟨#[49]⟩ (decB 1000000000)) 999999999 = (0, some 2) := by
    unfold lexV
    rw [if_pos (by rw [cs, hbig, z3]; decide)]
  have h2 := C_lexNumber (catB ⟨#[48]⟩ (decB n)) 999999999 (by rw [cs]; omega)
  have h3 := C_lexNumber (catB ⟨#[45]⟩ (decB n)) 999999999 (by rw [cs]; omega)
  have h4 := C_lexNumber (catB ⟨#[49]⟩ (decB 1000000000)) 999999999 (by rw [cs]; omega)
  rw [b1] at h2
  rw [b2] at h3
  rw [b3] at h4
  have a1 := avBin_sadd 9 ⟨#[48]⟩ (decB n) (by omega)
  have a2 := avBin_sadd 9 ⟨#[45]⟩ (decB n) (by omega)
  have a3 := avBin_sadd 9 ⟨#[49]⟩ (decB 1000000000) (by omega)
  have iN := is_err 2 107 (by decide) (by decide)
  have iR := is_err 3 103 (by decide) (by decide)
  simp only [avStr, errO] at hN hB h2 h3 h4
  have hBi : ((1000000000 : Nat) : Int) = 1000000000 := rfl
  rw [hBi] at hB
  generalize decB 1000000000 = big at hB h4 a3
  by_cases hmn : (m : Int) < (n : Int)
  · rw [if_pos hmn] at h1
    simp only [avStr, errO] at h1
    simp only [go_sem, Nat.reduceAdd, Nat.reduceLT, Nat.reduceEqDiff, Nat.reduceBEq, Nat.reduceLeDiff, Nat.reduceSub, Int.reduceToNat, reduceCtorEq, ↓reduceIte, hm]
    refine callX_of hN ?_
    simp only [go_sem, Nat.reduceAdd, Nat.reduceLT, Nat.reduceEqDiff, Nat.reduceBEq, Nat.reduceLeDiff, Nat.reduceSub, Int.reduceToNat, reduceCtorEq, ↓reduceIte]
    refine callX_of h1 ?_
    simp only [go_sem, Nat.reduceAdd, Nat.reduceLT, Nat.reduceEqDiff, Nat.reduceBEq, Nat.reduceLeDiff, Nat.reduceSub, Int.reduceToNat, reduceCtorEq, ↓reduceIte]
    refine callX_of hN ?_
    simp only [go_sem, Nat.reduceAdd, Nat.reduceLT, Nat.reduceEqDiff, Nat.reduceBEq, Nat.reduceLeDiff, Nat.reduceSub, Int.reduceToNat, reduceCtorEq, ↓reduceIte, a1]
    refine callX_of h2 ?_
    simp only [go_sem, Nat.reduceAdd, Nat.reduceLT, Nat.reduceEqDiff, Nat.reduceBEq, Nat.reduceLeDiff, Nat.reduceSub, Int.reduceToNat, reduceCtorEq, ↓reduceIte]
    refine callX_of hN ?_
    simp only [go_sem, Nat.reduceAdd, Nat.reduceLT, Nat.reduceEqDiff, Nat.reduceBEq, Nat.reduceLeDiff, Nat.reduceSub, Int.reduceToNat, reduceCtorEq, ↓reduceIte, a2]
    refine callX_of h3 ?_
    simp only [go_sem, Nat.reduceAdd, Nat.reduceLT, Nat.reduceEqDiff, Nat.reduceBEq, Nat.reduceLeDiff, Nat.reduceSub, Int.reduceToNat, reduceCtorEq, ↓reduceIte]
    refine callX_of hB ?_
    simp only [go_sem, Nat.reduceAdd, Nat.reduceLT, Nat.reduceEqDiff, Nat.reduceBEq, Nat.reduceLeDiff, Nat.reduceSub, Int.reduceToNat, reduceCtorEq, ↓reduceIte, a3]
    refine callX_of h4 ?_
    simp only [go_sem, Nat.reduceAdd, Nat.reduceLT, Nat.reduceEqDiff, Nat.reduceBEq, Nat.reduceLeDiff, Nat.reduceSub, Int.reduceToNat, reduceCtorEq, ↓reduceIte, eq_true hmn, decide_true, beq_self_eq_true]
    refine callX_of iR ?_
    simp only [go_sem, Nat.reduceAdd, Nat.reduceLT, Nat.reduceEqDiff, Nat.reduceBEq, Nat.reduceLeDiff, Nat.reduceSub, Int.reduceToNat, reduceCtorEq, ↓reduceIte]
    refine callX_of iN ?_
    simp only [go_sem, Nat.reduceAdd, Nat.reduceLT, Nat.reduceEqDiff, Nat.reduceBEq, Nat.reduceLeDiff, Nat.reduceSub, Int.reduceToNat, reduceCtorEq, ↓reduceIte]
    refine callX_of iN ?_
    simp only [go_sem, Nat.reduceAdd, Nat.reduceLT, Nat.reduceEqDiff, Nat.reduceBEq, Nat.reduceLeDiff, Nat.reduceSub, Int.reduceToNat, reduceCtorEq, ↓reduceIte]
  · rw [if_neg hmn] at h1
    simp only [avStr, errO] at h1
    simp only [go_sem, Nat.reduceAdd, Nat.reduceLT, Nat.reduceEqDiff, Nat.reduceBEq, Nat.reduceLeDiff, Nat.reduceSub, Int.reduceToNat, reduceCtorEq, ↓reduceIte, hm]
    refine callX_of hN ?_
    simp only [go_sem, Nat.reduceAdd, Nat.reduceLT, Nat.reduceEqDiff, Nat.reduceBEq, Nat.reduceLeDiff, Nat.reduceSub, Int.reduceToNat, reduceCtorEq, ↓reduceIte]
    refine callX_of h1 ?_
    simp only [go_sem, Nat.reduceAdd, Nat.reduceLT, Nat.reduceEqDiff, Nat.reduceBEq, Nat.reduceLeDiff, Nat.reduceSub, Int.reduceToNat, reduceCtorEq, ↓reduceIte]
    refine callX_of hN ?_
    simp only [go_sem, Nat.reduceAdd, Nat.reduceLT, Nat.reduceEqDiff, Nat.reduceBEq, Nat.reduceLeDiff, Nat.reduceSub, Int.reduceToNat, reduceCtorEq, ↓reduceIte, a1]
    refine callX_of h2 ?_
    simp only [go_sem, Nat.reduceAdd, Nat.reduceLT, Nat.reduceEqDiff, Nat.reduceBEq, Nat.reduceLeDiff, Nat.reduceSub, Int.reduceToNat, reduceCtorEq, ↓reduceIte]
    refine callX_of hN ?_
    simp only [go_sem, Nat.reduceAdd, Nat.reduceLT, Nat.reduceEqDiff, Nat.reduceBEq, Nat.reduceLeDiff, Nat.reduceSub, Int.reduceToNat, reduceCtorEq, ↓reduceIte, a2]
    refine callX_of h3 ?_
    simp only [go_sem, Nat.reduceAdd, Nat.reduceLT, Nat.reduceEqDiff, Nat.reduceBEq, Nat.reduceLeDiff, Nat.reduceSub, Int.reduceToNat, reduceCtorEq, ↓reduceIte]
    refine callX_of hB ?_
    simp only [go_sem, Nat.reduceAdd, Nat.reduceLT, Nat.reduceEqDiff, Nat.reduceBEq, Nat.reduceLeDiff, Nat.reduceSub, Int.reduceToNat, reduceCtorEq, ↓reduceIte, a3]
    refine callX_of h4 ?_
    simp only [go_sem, Nat.reduceAdd, Nat.reduceLT, Nat.reduceEqDiff, Nat.reduceBEq, Nat.reduceLeDiff, Nat.reduceSub, Int.reduceToNat, reduceCtorEq, ↓reduceIte, eq_false hmn, decide_false, beq_self_eq_true]
    refine callX_of iN ?_
    simp only [go_sem, Nat.reduceAdd, Nat.reduceLT, Nat.reduceEqDiff, Nat.reduceBEq, Nat.reduceLeDiff, Nat.reduceSub, Int.reduceToNat, reduceCtorEq, ↓reduceIte]
    refine callX_of iN ?_
    simp only [go_sem, Nat.reduceAdd, Nat.reduceLT, Nat.reduceEqDiff, Nat.reduceBEq, Nat.reduceLeDiff, Nat.reduceSub, Int.reduceToNat, reduceCtorEq, ↓reduceIte]
    refine callX_of iN ?_
    simp only [go_sem, Nat.reduceAdd, Nat.reduceLT, Nat.reduceEqDiff, Nat.reduceBEq, Nat.reduceLeDiff, Nat.reduceSub, Int.reduceToNat, reduceCtorEq, ↓reduceIte]

end Go.Proofs.YtodnphnbnneegaaDoor.VL
