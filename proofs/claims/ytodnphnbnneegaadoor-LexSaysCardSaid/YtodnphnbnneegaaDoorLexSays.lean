/- rivuletref5.Number, Name; rivuletlaw5.LexSays: the walks. -/
import Derived.Test.YtodnphnbnneegaaDoorRefLines
import Derived.Test.YtodnphnbnneegaaDoorLexNum
set_option linter.unusedVariables false
set_option linter.unusedSimpArgs false
set_option maxHeartbeats 8000000
namespace Go.Proofs.YtodnphnbnneegaaDoor.VL
open Go.RowKit Go.Proofs

def r5V (l : List UInt8) (most : Int) : Int × Int := if rNum l 9 < 0 then (0, 107) else if most < rNum l 9 then (0, 103) else (rNum l 9, 0)
theorem C_r5Number (s : ByteArray) (most : Int) : AC Tryd.prog f_rivuletref5_Number [avStr s, .lit (.int .i64 most)] (.tup [.lit (.int .i64 (r5V s.data.toList most).1), .lit (.int .i64 (r5V s.data.toList most).2)]) := by
  refine ac_rivuletref5_Number ?_ (Nat.le_add_left 2 _)
  have hN := C_rNumber s 9 (by decide)
  unfold r5V
  generalize rNum s.data.toList 9 = n at hN ⊢
  simp only [go_sem, Nat.reduceAdd, Nat.reduceLT, Nat.reduceEqDiff, Nat.reduceBEq, Nat.reduceLeDiff, Nat.reduceSub, Int.reduceToNat, reduceCtorEq, ↓reduceIte, c_rivuletref5_Number, avStr]
  refine callX_of hN ?_
  by_cases h0 : n < 0
  · simp only [go_sem, Nat.reduceAdd, Nat.reduceLT, Nat.reduceEqDiff, Nat.reduceBEq, Nat.reduceLeDiff, Nat.reduceSub, Int.reduceToNat, reduceCtorEq, ↓reduceIte, eq_true h0, decide_true, if_pos h0]
  · by_cases h1 : most < n
    · simp only [go_sem, Nat.reduceAdd, Nat.reduceLT, Nat.reduceEqDiff, Nat.reduceBEq, Nat.reduceLeDiff, Nat.reduceSub, Int.reduceToNat, reduceCtorEq, ↓reduceIte, eq_false h0, eq_true h1, decide_true, decide_false, if_neg h0, if_pos h1]
    · simp only [go_sem, Nat.reduceAdd, Nat.reduceLT, Nat.reduceEqDiff, Nat.reduceBEq, Nat.reduceLeDiff, Nat.reduceSub, Int.reduceToNat, reduceCtorEq, ↓reduceIte, eq_false h0, eq_false h1, decide_false, if_neg h0, if_neg h1]

theorem r5_eq (s : ByteArray) (most : Int) : r5V s.data.toList most = ((lexV s most).1, codeO (lexV s most).2) := by
  have c2 : codeI 2 = 107 := by decide
  have c3 : codeI 3 = 103 := by decide
  unfold r5V
  by_cases h0 : rNum s.data.toList 9 < 0
  · rw [if_pos h0]
    have : lexV s most = (0, some 2) := by
      by_cases h9 : 9 < s.size
      · unfold lexV
        rw [if_pos h9]
      · refine lexV_bad s most fun k hk => ?_
        have hk9 : k < 10 ^ 9 := by
          rcases Nat.lt_or_ge k (10 ^ 9) with h | h
          · exact h
          · exfalso
            have h1 : 10 ≤ (Lib.decDigits k).length := by
              rw [Lib.decDigits_length]
              rcases Nat.lt_or_ge (Lib.nDigits k) 10 with h2 | h2
              · have := Lib.lt_pow_nDigits k
                have h3 : 10 ^ (Lib.nDigits k) ≤ 10 ^ 9 := Nat.pow_le_pow_right (by decide) (by omega)
                omega
              · exact h2
            rw [hk, ← Lib.size_eq] at h1
            omega
        have := rNum_dd k 9 (by decide) hk9
        rw [hk] at this
        omega
    rw [this]
    simp only [codeO, c2]
  · rw [if_neg h0]
    have e := rNum_inv _ _ (by omega : 0 ≤ rNum s.data.toList 9)
    obtain ⟨n, hn⟩ : ∃ n : Nat, rNum s.data.toList 9 = (n : Int) := ⟨(rNum s.data.toList 9).toNat, by omega⟩
    rw [hn, Int.toNat_natCast] at e
    have hs : s = decB n := by rw [← toB_data s, e]; rfl
    have hl9 : s.data.toList.length ≤ 9 := by
      rcases Nat.lt_or_ge 9 s.data.toList.length with h | h
      · exfalso
        apply h0
        unfold rNum
        rw [if_neg (by omega), if_pos h]
        decide
      · exact h
    have hn9 : n < 1000000000 := by
      rw [e, Lib.decDigits_length] at hl9
      have h1 := Lib.lt_pow_nDigits n
      have h2 : 10 ^ (Lib.nDigits n) ≤ 10 ^ 9 := Nat.pow_le_pow_right (by decide) hl9
      omega
    rw [hn, hs, lexV_dec n most hn9]
    by_cases hm : most < (n : Int)
    · rw [if_pos hm, if_pos hm]
      simp only [codeO, c3]
    · rw [if_neg hm, if_neg hm]
      simp only [codeO]

/-! ### Names -/
def nmCode (ok : Bool) : Int := if ok = true then 0 else 109
def fstOK (l : List UInt8) : Bool := decide (1 ≤ l.length) && (decide (l.length ≤ 12) && hd0 l[0]?)
theorem nameOK_fst (l : List UInt8) : nameOK l = (fstOK l && l.all fun b => signN b.toNat) := by
  simp only [nameOK, fstOK, Bool.and_assoc]

theorem C_r5Name (s : ByteArray) (hs : s.size < 9223372036854775807) : AC Tryd.prog f_rivuletref5_Name [avStr s] (.lit (.int .i64 (nmCode (nameOK s.data.toList)))) := by
  refine ac_rivuletref5_Name ?_ (Nat.le_add_left 1 _)
  have hsz : s.size = s.data.toList.length := Lib.size_eq s
  simp only [go_sem, Nat.reduceAdd, Nat.reduceLT, Nat.reduceEqDiff, Nat.reduceBEq, Nat.reduceLeDiff, Nat.reduceSub, Int.reduceToNat, reduceCtorEq, ↓reduceIte, c_rivuletref5_Name, avStr]
  generalize hL : s.data.toList = l at hsz
  have hf := nameOK_fst l
  by_cases h1 : 1 ≤ l.length
  · have e1 : ((1 : Int) ≤ (s.size : Int)) = True := eq_true (by omega)
    obtain ⟨b0, hb0⟩ : ∃ b, l[0]? = some b := ⟨l[0], List.getElem?_eq_getElem (by omega)⟩
    have i0 := avIxs_l s .i64 0 b0 (by rw [hL]; exact hb0)
    rw [show ((0 : Nat) : Int) = 0 from rfl] at i0
    have d1 : decide (1 ≤ l.length) = true := by simpa using h1
    by_cases h2 : l.length ≤ 12
    · have e2 : ((s.size : Int) ≤ 12) = True := eq_true (by omega)
      have d2 : decide (l.length ≤ 12) = true := by simpa using h2
      by_cases hA : 97 ≤ b0.toNat
      · have gA : ((97 : Int) ≤ ((b0.toNat : Nat) : Int)) = True := eq_true (by omega)
        by_cases hB : b0.toNat ≤ 122
        · have gB : (((b0.toNat : Nat) : Int) ≤ 122) = True := eq_true (by omega)
          have eF : fstOK l = true := by simp only [fstOK, d1, d2, hb0, hd0, letterN, hA, hB, decide_true, Bool.and_self]
          simp only [go_sem, Nat.reduceAdd, Nat.reduceLT, Nat.reduceEqDiff, Nat.reduceBEq, Nat.reduceLeDiff, Nat.reduceSub, Int.reduceToNat, reduceCtorEq, ↓reduceIte, e1, e2, i0, gA, gB, decide_true, decide_false]
          refine aw_loop (fun m E => ∃ (k : Nat) (ok : Bool), k + m = l.length ∧ ok = (fstOK l && (l.take k).all fun b => signN b.toNat) ∧ E = mkE [(0, .lit (.string s)), (3, .lit (.bool ok)), (4, .lit (.int .i64 (k : Nat)))] []) l.length ?_ ?_
          · exact ⟨0, _, by omega, rfl, by simp only [go_sem, Nat.reduceAdd, Nat.reduceLT, Nat.reduceEqDiff, Nat.reduceBEq, Nat.reduceLeDiff, Nat.reduceSub, Int.reduceToNat, reduceCtorEq, ↓reduceIte, eF, List.take_zero, List.all_nil, Bool.and_true]; rfl⟩
          · rintro m _ ⟨k, ok, hk, hok, rfl⟩
            by_cases hkl : k < l.length
            · have f1 : ((k : Int) < (s.size : Int)) = True := eq_true (by omega)
              obtain ⟨b, hb⟩ : ∃ b, l[k]? = some b := ⟨l[k], List.getElem?_eq_getElem hkl⟩
              have ib := avIxs_l s .i64 k b (by rw [hL]; exact hb)
              have w1 := wrap_succ k (by omega)
              have hstep : (fstOK l && (l.take (k + 1)).all fun b => signN b.toNat) = (ok && signN b.toNat) := by
                rw [List.take_add_one, hb, List.all_append, hok, Bool.and_assoc]
                simp
              cases ok with
              | false =>
                simp only [go_sem, Nat.reduceAdd, Nat.reduceLT, Nat.reduceEqDiff, Nat.reduceBEq, Nat.reduceLeDiff, Nat.reduceSub, Int.reduceToNat, reduceCtorEq, ↓reduceIte, f1, decide_true, ib, w1]
                exact ⟨m - 1, by omega, k + 1, false, by omega, by rw [hstep]; rfl, rfl⟩
              | true =>
                have done : ∀ t : Bool, signN b.toNat = t → t = (fstOK l && (l.take (k + 1)).all fun b => signN b.toNat) := fun t ht => by rw [hstep, ht]; rfl
                by_cases hA : 97 ≤ b.toNat
                · have gA : ((97 : Int) ≤ ((b.toNat : Nat) : Int)) = True := eq_true (by omega)
                  by_cases hB : b.toNat ≤ 122
                  · have gB : (((b.toNat : Nat) : Int) ≤ 122) = True := eq_true (by omega)
                    simp only [go_sem, Nat.reduceAdd, Nat.reduceLT, Nat.reduceEqDiff, Nat.reduceBEq, Nat.reduceLeDiff, Nat.reduceSub, Int.reduceToNat, reduceCtorEq, ↓reduceIte, f1, decide_true, ib, w1, gA, gB]
                    exact ⟨m - 1, by omega, k + 1, true, by omega, done true (by simp [signN, letterN, hA, hB]), rfl⟩
                  · have gB : (((b.toNat : Nat) : Int) ≤ 122) = False := eq_false (by omega)
                    have g48 : ((48 : Int) ≤ ((b.toNat : Nat) : Int)) = True := eq_true (by omega)
                    have g57 : (((b.toNat : Nat) : Int) ≤ 57) = False := eq_false (by omega)
                    have g45 : (((b.toNat : Nat) : Int) == 45) = false := by simp only [beq_eq_false_iff_ne, ne_eq]; omega
                    simp only [go_sem, Nat.reduceAdd, Nat.reduceLT, Nat.reduceEqDiff, Nat.reduceBEq, Nat.reduceLeDiff, Nat.reduceSub, Int.reduceToNat, reduceCtorEq, ↓reduceIte, f1, decide_true, decide_false, ib, w1, gA, gB, g48, g57, g45]
                    exact ⟨m - 1, by omega, k + 1, false, by omega, done false (by simp [signN, letterN]; omega), rfl⟩
                · have gA : ((97 : Int) ≤ ((b.toNat : Nat) : Int)) = False := eq_false (by omega)
                  by_cases h48 : 48 ≤ b.toNat
                  · have g48 : ((48 : Int) ≤ ((b.toNat : Nat) : Int)) = True := eq_true (by omega)
                    by_cases h57 : b.toNat ≤ 57
                    · have g57 : (((b.toNat : Nat) : Int) ≤ 57) = True := eq_true (by omega)
                      simp only [go_sem, Nat.reduceAdd, Nat.reduceLT, Nat.reduceEqDiff, Nat.reduceBEq, Nat.reduceLeDiff, Nat.reduceSub, Int.reduceToNat, reduceCtorEq, ↓reduceIte, f1, decide_true, decide_false, ib, w1, gA, g48, g57]
                      exact ⟨m - 1, by omega, k + 1, true, by omega, done true (by simp [signN, h48, h57]), rfl⟩
                    · have g57 : (((b.toNat : Nat) : Int) ≤ 57) = False := eq_false (by omega)
                      have g45 : (((b.toNat : Nat) : Int) == 45) = false := by simp only [beq_eq_false_iff_ne, ne_eq]; omega
                      simp only [go_sem, Nat.reduceAdd, Nat.reduceLT, Nat.reduceEqDiff, Nat.reduceBEq, Nat.reduceLeDiff, Nat.reduceSub, Int.reduceToNat, reduceCtorEq, ↓reduceIte, f1, decide_true, decide_false, ib, w1, gA, g48, g57, g45]
                      exact ⟨m - 1, by omega, k + 1, false, by omega, done false (by simp [signN, letterN]; omega), rfl⟩
                  · have g48 : ((48 : Int) ≤ ((b.toNat : Nat) : Int)) = False := eq_false (by omega)
                    by_cases h45 : b.toNat = 45
                    · have g45 : (((b.toNat : Nat) : Int) == 45) = true := by rw [h45]; rfl
                      simp only [go_sem, Nat.reduceAdd, Nat.reduceLT, Nat.reduceEqDiff, Nat.reduceBEq, Nat.reduceLeDiff, Nat.reduceSub, Int.reduceToNat, reduceCtorEq, ↓reduceIte, f1, decide_true, decide_false, ib, w1, gA, g48, g45]
                      exact ⟨m - 1, by omega, k + 1, true, by omega, done true (by simp [signN, h45]), rfl⟩
                    · have g45 : (((b.toNat : Nat) : Int) == 45) = false := by simp only [beq_eq_false_iff_ne, ne_eq]; omega
                      simp only [go_sem, Nat.reduceAdd, Nat.reduceLT, Nat.reduceEqDiff, Nat.reduceBEq, Nat.reduceLeDiff, Nat.reduceSub, Int.reduceToNat, reduceCtorEq, ↓reduceIte, f1, decide_true, decide_false, ib, w1, gA, g48, g45]
                      exact ⟨m - 1, by omega, k + 1, false, by omega, done false (by simp [signN, letterN]; omega), rfl⟩
            · have f1 : ((k : Int) < (s.size : Int)) = False := eq_false (by omega)
              rw [List.take_of_length_le (by omega), ← hf] at hok
              rw [← hok]
              cases ok
              · simp only [go_sem, Nat.reduceAdd, Nat.reduceLT, Nat.reduceEqDiff, Nat.reduceBEq, Nat.reduceLeDiff, Nat.reduceSub, Int.reduceToNat, reduceCtorEq, ↓reduceIte, f1, decide_false, nmCode, Bool.false_eq_true]
              · simp only [go_sem, Nat.reduceAdd, Nat.reduceLT, Nat.reduceEqDiff, Nat.reduceBEq, Nat.reduceLeDiff, Nat.reduceSub, Int.reduceToNat, reduceCtorEq, ↓reduceIte, f1, decide_false, nmCode]
        · have gB : (((b0.toNat : Nat) : Int) ≤ 122) = False := eq_false (by omega)
          have eF : fstOK l = false := by simp [fstOK, hb0, hd0, letterN, hB]
          simp only [go_sem, Nat.reduceAdd, Nat.reduceLT, Nat.reduceEqDiff, Nat.reduceBEq, Nat.reduceLeDiff, Nat.reduceSub, Int.reduceToNat, reduceCtorEq, ↓reduceIte, e1, e2, i0, gA, gB, decide_true, decide_false]
          refine aw_loop (fun m E => ∃ (k : Nat) (ok : Bool), k + m = l.length ∧ ok = (fstOK l && (l.take k).all fun b => signN b.toNat) ∧ E = mkE [(0, .lit (.string s)), (3, .lit (.bool ok)), (4, .lit (.int .i64 (k : Nat)))] []) l.length ?_ ?_
          · exact ⟨0, _, by omega, rfl, by simp only [go_sem, Nat.reduceAdd, Nat.reduceLT, Nat.reduceEqDiff, Nat.reduceBEq, Nat.reduceLeDiff, Nat.reduceSub, Int.reduceToNat, reduceCtorEq, ↓reduceIte, eF, List.take_zero, List.all_nil, Bool.and_true]; rfl⟩
          · rintro m _ ⟨k, ok, hk, hok, rfl⟩
            by_cases hkl : k < l.length
            · have f1 : ((k : Int) < (s.size : Int)) = True := eq_true (by omega)
              obtain ⟨b, hb⟩ : ∃ b, l[k]? = some b := ⟨l[k], List.getElem?_eq_getElem hkl⟩
              have ib := avIxs_l s .i64 k b (by rw [hL]; exact hb)
              have w1 := wrap_succ k (by omega)
              have hstep : (fstOK l && (l.take (k + 1)).all fun b => signN b.toNat) = (ok && signN b.toNat) := by
                rw [List.take_add_one, hb, List.all_append, hok, Bool.and_assoc]
                simp
              cases ok with
              | false =>
                simp only [go_sem, Nat.reduceAdd, Nat.reduceLT, Nat.reduceEqDiff, Nat.reduceBEq, Nat.reduceLeDiff, Nat.reduceSub, Int.reduceToNat, reduceCtorEq, ↓reduceIte, f1, decide_true, ib, w1]
                exact ⟨m - 1, by omega, k + 1, false, by omega, by rw [hstep]; rfl, rfl⟩
              | true =>
                have done : ∀ t : Bool, signN b.toNat = t → t = (fstOK l && (l.take (k + 1)).all fun b => signN b.toNat) := fun t ht => by rw [hstep, ht]; rfl
                by_cases hA : 97 ≤ b.toNat
                · have gA : ((97 : Int) ≤ ((b.toNat : Nat) : Int)) = True := eq_true (by omega)
                  by_cases hB : b.toNat ≤ 122
                  · have gB : (((b.toNat : Nat) : Int) ≤ 122) = True := eq_true (by omega)
                    simp only [go_sem, Nat.reduceAdd, Nat.reduceLT, Nat.reduceEqDiff, Nat.reduceBEq, Nat.reduceLeDiff, Nat.reduceSub, Int.reduceToNat, reduceCtorEq, ↓reduceIte, f1, decide_true, ib, w1, gA, gB]
                    exact ⟨m - 1, by omega, k + 1, true, by omega, done true (by simp [signN, letterN, hA, hB]), rfl⟩
                  · have gB : (((b.toNat : Nat) : Int) ≤ 122) = False := eq_false (by omega)
                    have g48 : ((48 : Int) ≤ ((b.toNat : Nat) : Int)) = True := eq_true (by omega)
                    have g57 : (((b.toNat : Nat) : Int) ≤ 57) = False := eq_false (by omega)
                    have g45 : (((b.toNat : Nat) : Int) == 45) = false := by simp only [beq_eq_false_iff_ne, ne_eq]; omega
                    simp only [go_sem, Nat.reduceAdd, Nat.reduceLT, Nat.reduceEqDiff, Nat.reduceBEq, Nat.reduceLeDiff, Nat.reduceSub, Int.reduceToNat, reduceCtorEq, ↓reduceIte, f1, decide_true, decide_false, ib, w1, gA, gB, g48, g57, g45]
                    exact ⟨m - 1, by omega, k + 1, false, by omega, done false (by simp [signN, letterN]; omega), rfl⟩
                · have gA : ((97 : Int) ≤ ((b.toNat : Nat) : Int)) = False := eq_false (by omega)
                  by_cases h48 : 48 ≤ b.toNat
                  · have g48 : ((48 : Int) ≤ ((b.toNat : Nat) : Int)) = True := eq_true (by omega)
                    by_cases h57 : b.toNat ≤ 57
                    · have g57 : (((b.toNat : Nat) : Int) ≤ 57) = True := eq_true (by omega)
                      simp only [go_sem, Nat.reduceAdd, Nat.reduceLT, Nat.reduceEqDiff, Nat.reduceBEq, Nat.reduceLeDiff, Nat.reduceSub, Int.reduceToNat, reduceCtorEq, ↓reduceIte, f1, decide_true, decide_false, ib, w1, gA, g48, g57]
                      exact ⟨m - 1, by omega, k + 1, true, by omega, done true (by simp [signN, h48, h57]), rfl⟩
                    · have g57 : (((b.toNat : Nat) : Int) ≤ 57) = False := eq_false (by omega)
                      have g45 : (((b.toNat : Nat) : Int) == 45) = false := by simp only [beq_eq_false_iff_ne, ne_eq]; omega
                      simp only [go_sem, Nat.reduceAdd, Nat.reduceLT, Nat.reduceEqDiff, Nat.reduceBEq, Nat.reduceLeDiff, Nat.reduceSub, Int.reduceToNat, reduceCtorEq, ↓reduceIte, f1, decide_true, decide_false, ib, w1, gA, g48, g57, g45]
                      exact ⟨m - 1, by omega, k + 1, false, by omega, done false (by simp [signN, letterN]; omega), rfl⟩
                  · have g48 : ((48 : Int) ≤ ((b.toNat : Nat) : Int)) = False := eq_false (by omega)
                    by_cases h45 : b.toNat = 45
                    · have g45 : (((b.toNat : Nat) : Int) == 45) = true := by rw [h45]; rfl
                      simp only [go_sem, Nat.reduceAdd, Nat.reduceLT, Nat.reduceEqDiff, Nat.reduceBEq, Nat.reduceLeDiff, Nat.reduceSub, Int.reduceToNat, reduceCtorEq, ↓reduceIte, f1, decide_true, decide_false, ib, w1, gA, g48, g45]
                      exact ⟨m - 1, by omega, k + 1, true, by omega, done true (by simp [signN, h45]), rfl⟩
                    · have g45 : (((b.toNat : Nat) : Int) == 45) = false := by simp only [beq_eq_false_iff_ne, ne_eq]; omega
                      simp only [go_sem, Nat.reduceAdd, Nat.reduceLT, Nat.reduceEqDiff, Nat.reduceBEq, Nat.reduceLeDiff, Nat.reduceSub, Int.reduceToNat, reduceCtorEq, ↓reduceIte, f1, decide_true, decide_false, ib, w1, gA, g48, g45]
                      exact ⟨m - 1, by omega, k + 1, false, by omega, done false (by simp [signN, letterN]; omega), rfl⟩
            · have f1 : ((k : Int) < (s.size : Int)) = False := eq_false (by omega)
              rw [List.take_of_length_le (by omega), ← hf] at hok
              rw [← hok]
              cases ok
              · simp only [go_sem, Nat.reduceAdd, Nat.reduceLT, Nat.reduceEqDiff, Nat.reduceBEq, Nat.reduceLeDiff, Nat.reduceSub, Int.reduceToNat, reduceCtorEq, ↓reduceIte, f1, decide_false, nmCode, Bool.false_eq_true]
              · simp only [go_sem, Nat.reduceAdd, Nat.reduceLT, Nat.reduceEqDiff, Nat.reduceBEq, Nat.reduceLeDiff, Nat.reduceSub, Int.reduceToNat, reduceCtorEq, ↓reduceIte, f1, decide_false, nmCode]
      · have gA : ((97 : Int) ≤ ((b0.toNat : Nat) : Int)) = False := eq_false (by omega)
        have eF : fstOK l = false := by simp [fstOK, hb0, hd0, letterN, hA]
        simp only [go_sem, Nat.reduceAdd, Nat.reduceLT, Nat.reduceEqDiff, Nat.reduceBEq, Nat.reduceLeDiff, Nat.reduceSub, Int.reduceToNat, reduceCtorEq, ↓reduceIte, e1, e2, i0, gA, decide_true, decide_false]
        refine aw_loop (fun m E => ∃ (k : Nat) (ok : Bool), k + m = l.length ∧ ok = (fstOK l && (l.take k).all fun b => signN b.toNat) ∧ E = mkE [(0, .lit (.string s)), (3, .lit (.bool ok)), (4, .lit (.int .i64 (k : Nat)))] []) l.length ?_ ?_
        · exact ⟨0, _, by omega, rfl, by simp only [go_sem, Nat.reduceAdd, Nat.reduceLT, Nat.reduceEqDiff, Nat.reduceBEq, Nat.reduceLeDiff, Nat.reduceSub, Int.reduceToNat, reduceCtorEq, ↓reduceIte, eF, List.take_zero, List.all_nil, Bool.and_true]; rfl⟩
        · rintro m _ ⟨k, ok, hk, hok, rfl⟩
          by_cases hkl : k < l.length
          · have f1 : ((k : Int) < (s.size : Int)) = True := eq_true (by omega)
            obtain ⟨b, hb⟩ : ∃ b, l[k]? = some b := ⟨l[k], List.getElem?_eq_getElem hkl⟩
            have ib := avIxs_l s .i64 k b (by rw [hL]; exact hb)
            have w1 := wrap_succ k (by omega)
            have hstep : (fstOK l && (l.take (k + 1)).all fun b => signN b.toNat) = (ok && signN b.toNat) := by
              rw [List.take_add_one, hb, List.all_append, hok, Bool.and_assoc]
              simp
            cases ok with
            | false =>
              simp only [go_sem, Nat.reduceAdd, Nat.reduceLT, Nat.reduceEqDiff, Nat.reduceBEq, Nat.reduceLeDiff, Nat.reduceSub, Int.reduceToNat, reduceCtorEq, ↓reduceIte, f1, decide_true, ib, w1]
              exact ⟨m - 1, by omega, k + 1, false, by omega, by rw [hstep]; rfl, rfl⟩
            | true =>
              have done : ∀ t : Bool, signN b.toNat = t → t = (fstOK l && (l.take (k + 1)).all fun b => signN b.toNat) := fun t ht => by rw [hstep, ht]; rfl
              by_cases hA : 97 ≤ b.toNat
              · have gA : ((97 : Int) ≤ ((b.toNat : Nat) : Int)) = True := eq_true (by omega)
                by_cases hB : b.toNat ≤ 122
                · have gB : (((b.toNat : Nat) : Int) ≤ 122) = True := eq_true (by omega)
                  simp only [go_sem, Nat.reduceAdd, Nat.reduceLT, Nat.reduceEqDiff, Nat.reduceBEq, Nat.reduceLeDiff, Nat.reduceSub, Int.reduceToNat, reduceCtorEq, ↓reduceIte, f1, decide_true, ib, w1, gA, gB]
                  exact ⟨m - 1, by omega, k + 1, true, by omega, done true (by simp [signN, letterN, hA, hB]), rfl⟩
                · have gB : (((b.toNat : Nat) : Int) ≤ 122) = False := eq_false (by omega)
                  have g48 : ((48 : Int) ≤ ((b.toNat : Nat) : Int)) = True := eq_true (by omega)
                  have g57 : (((b.toNat : Nat) : Int) ≤ 57) = False := eq_false (by omega)
                  have g45 : (((b.toNat : Nat) : Int) == 45) = false := by simp only [beq_eq_false_iff_ne, ne_eq]; omega
                  simp only [go_sem, Nat.reduceAdd, Nat.reduceLT, Nat.reduceEqDiff, Nat.reduceBEq, Nat.reduceLeDiff, Nat.reduceSub, Int.reduceToNat, reduceCtorEq, ↓reduceIte, f1, decide_true, decide_false, ib, w1, gA, gB, g48, g57, g45]
                  exact ⟨m - 1, by omega, k + 1, false, by omega, done false (by simp [signN, letterN]; omega), rfl⟩
              · have gA : ((97 : Int) ≤ ((b.toNat : Nat) : Int)) = False := eq_false (by omega)
                by_cases h48 : 48 ≤ b.toNat
                · have g48 : ((48 : Int) ≤ ((b.toNat : Nat) : Int)) = True := eq_true (by omega)
                  by_cases h57 : b.toNat ≤ 57
                  · have g57 : (((b.toNat : Nat) : Int) ≤ 57) = True := eq_true (by omega)
                    simp only [go_sem, Nat.reduceAdd, Nat.reduceLT, Nat.reduceEqDiff, Nat.reduceBEq, Nat.reduceLeDiff, Nat.reduceSub, Int.reduceToNat, reduceCtorEq, ↓reduceIte, f1, decide_true, decide_false, ib, w1, gA, g48, g57]
                    exact ⟨m - 1, by omega, k + 1, true, by omega, done true (by simp [signN, h48, h57]), rfl⟩
                  · have g57 : (((b.toNat : Nat) : Int) ≤ 57) = False := eq_false (by omega)
                    have g45 : (((b.toNat : Nat) : Int) == 45) = false := by simp only [beq_eq_false_iff_ne, ne_eq]; omega
                    simp only [go_sem, Nat.reduceAdd, Nat.reduceLT, Nat.reduceEqDiff, Nat.reduceBEq, Nat.reduceLeDiff, Nat.reduceSub, Int.reduceToNat, reduceCtorEq, ↓reduceIte, f1, decide_true, decide_false, ib, w1, gA, g48, g57, g45]
                    exact ⟨m - 1, by omega, k + 1, false, by omega, done false (by simp [signN, letterN]; omega), rfl⟩
                · have g48 : ((48 : Int) ≤ ((b.toNat : Nat) : Int)) = False := eq_false (by omega)
                  by_cases h45 : b.toNat = 45
                  · have g45 : (((b.toNat : Nat) : Int) == 45) = true := by rw [h45]; rfl
                    simp only [go_sem, Nat.reduceAdd, Nat.reduceLT, Nat.reduceEqDiff, Nat.reduceBEq, Nat.reduceLeDiff, Nat.reduceSub, Int.reduceToNat, reduceCtorEq, ↓reduceIte, f1, decide_true, decide_false, ib, w1, gA, g48, g45]
                    exact ⟨m - 1, by omega, k + 1, true, by omega, done true (by simp [signN, h45]), rfl⟩
                  · have g45 : (((b.toNat : Nat) : Int) == 45) = false := by simp only [beq_eq_false_iff_ne, ne_eq]; omega
                    simp only [go_sem, Nat.reduceAdd, Nat.reduceLT, Nat.reduceEqDiff, Nat.reduceBEq, Nat.reduceLeDiff, Nat.reduceSub, Int.reduceToNat, reduceCtorEq, ↓reduceIte, f1, decide_true, decide_false, ib, w1, gA, g48, g45]
                    exact ⟨m - 1, by omega, k + 1, false, by omega, done false (by simp [signN, letterN]; omega), rfl⟩
          · have f1 : ((k : Int) < (s.size : Int)) = False := eq_false (by omega)
            rw [List.take_of_length_le (by omega), ← hf] at hok
            rw [← hok]
            cases ok
            · simp only [go_sem, Nat.reduceAdd, Nat.reduceLT, Nat.reduceEqDiff, Nat.reduceBEq, Nat.reduceLeDiff, Nat.reduceSub, Int.reduceToNat, reduceCtorEq, ↓reduceIte, f1, decide_false, nmCode, Bool.false_eq_true]
            · simp only [go_sem, Nat.reduceAdd, Nat.reduceLT, Nat.reduceEqDiff, Nat.reduceBEq, Nat.reduceLeDiff, Nat.reduceSub, Int.reduceToNat, reduceCtorEq, ↓reduceIte, f1, decide_false, nmCode]
    · have e2 : ((s.size : Int) ≤ 12) = False := eq_false (by omega)
      have eF : fstOK l = false := by simp [fstOK, h2]
      simp only [go_sem, Nat.reduceAdd, Nat.reduceLT, Nat.reduceEqDiff, Nat.reduceBEq, Nat.reduceLeDiff, Nat.reduceSub, Int.reduceToNat, reduceCtorEq, ↓reduceIte, e1, e2, decide_true, decide_false]
      refine aw_loop (fun m E => ∃ (k : Nat) (ok : Bool), k + m = l.length ∧ ok = (fstOK l && (l.take k).all fun b => signN b.toNat) ∧ E = mkE [(0, .lit (.string s)), (3, .lit (.bool ok)), (4, .lit (.int .i64 (k : Nat)))] []) l.length ?_ ?_
      · exact ⟨0, _, by omega, rfl, by simp only [go_sem, Nat.reduceAdd, Nat.reduceLT, Nat.reduceEqDiff, Nat.reduceBEq, Nat.reduceLeDiff, Nat.reduceSub, Int.reduceToNat, reduceCtorEq, ↓reduceIte, eF, List.take_zero, List.all_nil, Bool.and_true]; rfl⟩
      · rintro m _ ⟨k, ok, hk, hok, rfl⟩
        by_cases hkl : k < l.length
        · have f1 : ((k : Int) < (s.size : Int)) = True := eq_true (by omega)
          obtain ⟨b, hb⟩ : ∃ b, l[k]? = some b := ⟨l[k], List.getElem?_eq_getElem hkl⟩
          have ib := avIxs_l s .i64 k b (by rw [hL]; exact hb)
          have w1 := wrap_succ k (by omega)
          have hstep : (fstOK l && (l.take (k + 1)).all fun b => signN b.toNat) = (ok && signN b.toNat) := by
            rw [List.take_add_one, hb, List.all_append, hok, Bool.and_assoc]
            simp
          cases ok with
          | false =>
            simp only [go_sem, Nat.reduceAdd, Nat.reduceLT, Nat.reduceEqDiff, Nat.reduceBEq, Nat.reduceLeDiff, Nat.reduceSub, Int.reduceToNat, reduceCtorEq, ↓reduceIte, f1, decide_true, ib, w1]
            exact ⟨m - 1, by omega, k + 1, false, by omega, by rw [hstep]; rfl, rfl⟩
          | true =>
            have done : ∀ t : Bool, signN b.toNat = t → t = (fstOK l && (l.take (k + 1)).all fun b => signN b.toNat) := fun t ht => by rw [hstep, ht]; rfl
            by_cases hA : 97 ≤ b.toNat
            · have gA : ((97 : Int) ≤ ((b.toNat : Nat) : Int)) = True := eq_true (by omega)
              by_cases hB : b.toNat ≤ 122
              · have gB : (((b.toNat : Nat) : Int) ≤ 122) = True := eq_true (by omega)
                simp only [go_sem, Nat.reduceAdd, Nat.reduceLT, Nat.reduceEqDiff, Nat.reduceBEq, Nat.reduceLeDiff, Nat.reduceSub, Int.reduceToNat, reduceCtorEq, ↓reduceIte, f1, decide_true, ib, w1, gA, gB]
                exact ⟨m - 1, by omega, k + 1, true, by omega, done true (by simp [signN, letterN, hA, hB]), rfl⟩
              · have gB : (((b.toNat : Nat) : Int) ≤ 122) = False := eq_false (by omega)
                have g48 : ((48 : Int) ≤ ((b.toNat : Nat) : Int)) = True := eq_true (by omega)
                have g57 : (((b.toNat : Nat) : Int) ≤ 57) = False := eq_false (by omega)
                have g45 : (((b.toNat : Nat) : Int) == 45) = false := by simp only [beq_eq_false_iff_ne, ne_eq]; omega
                simp only [go_sem, Nat.reduceAdd, Nat.reduceLT, Nat.reduceEqDiff, Nat.reduceBEq, Nat.reduceLeDiff, Nat.reduceSub, Int.reduceToNat, reduceCtorEq, ↓reduceIte, f1, decide_true, decide_false, ib, w1, gA, gB, g48, g57, g45]
                exact ⟨m - 1, by omega, k + 1, false, by omega, done false (by simp [signN, letterN]; omega), rfl⟩
            · have gA : ((97 : Int) ≤ ((b.toNat : Nat) : Int)) = False := eq_false (by omega)
              by_cases h48 : 48 ≤ b.toNat
              · have g48 : ((48 : Int) ≤ ((b.toNat : Nat) : Int)) = True := eq_true (by omega)
                by_cases h57 : b.toNat ≤ 57
                · have g57 : (((b.toNat : Nat) : Int) ≤ 57) = True := eq_true (by omega)
                  simp only [go_sem, Nat.reduceAdd, Nat.reduceLT, Nat.reduceEqDiff, Nat.reduceBEq, Nat.reduceLeDiff, Nat.reduceSub, Int.reduceToNat, reduceCtorEq, ↓reduceIte, f1, decide_true, decide_false, ib, w1, gA, g48, g57]
                  exact ⟨m - 1, by omega, k + 1, true, by omega, done true (by simp [signN, h48, h57]), rfl⟩
                · have g57 : (((b.toNat : Nat) : Int) ≤ 57) = False := eq_false (by omega)
                  have g45 : (((b.toNat : Nat) : Int) == 45) = false := by simp only [beq_eq_false_iff_ne, ne_eq]; omega
                  simp only [go_sem, Nat.reduceAdd, Nat.reduceLT, Nat.reduceEqDiff, Nat.reduceBEq, Nat.reduceLeDiff, Nat.reduceSub, Int.reduceToNat, reduceCtorEq, ↓reduceIte, f1, decide_true, decide_false, ib, w1, gA, g48, g57, g45]
                  exact ⟨m - 1, by omega, k + 1, false, by omega, done false (by simp [signN, letterN]; omega), rfl⟩
              · have g48 : ((48 : Int) ≤ ((b.toNat : Nat) : Int)) = False := eq_false (by omega)
                by_cases h45 : b.toNat = 45
                · have g45 : (((b.toNat : Nat) : Int) == 45) = true := by rw [h45]; rfl
                  simp only [go_sem, Nat.reduceAdd, Nat.reduceLT, Nat.reduceEqDiff, Nat.reduceBEq, Nat.reduceLeDiff, Nat.reduceSub, Int.reduceToNat, reduceCtorEq, ↓reduceIte, f1, decide_true, decide_false, ib, w1, gA, g48, g45]
                  exact ⟨m - 1, by omega, k + 1, true, by omega, done true (by simp [signN, h45]), rfl⟩
                · have g45 : (((b.toNat : Nat) : Int) == 45) = false := by simp only [beq_eq_false_iff_ne, ne_eq]; omega
                  simp only [go_sem, Nat.reduceAdd, Nat.reduceLT, Nat.reduceEqDiff, Nat.reduceBEq, Nat.reduceLeDiff, Nat.reduceSub, Int.reduceToNat, reduceCtorEq, ↓reduceIte, f1, decide_true, decide_false, ib, w1, gA, g48, g45]
                  exact ⟨m - 1, by omega, k + 1, false, by omega, done false (by simp [signN, letterN]; omega), rfl⟩
        · have f1 : ((k : Int) < (s.size : Int)) = False := eq_false (by omega)
          rw [List.take_of_length_le (by omega), ← hf] at hok
          rw [← hok]
          cases ok
          · simp only [go_sem, Nat.reduceAdd, Nat.reduceLT, Nat.reduceEqDiff, Nat.reduceBEq, Nat.reduceLeDiff, Nat.reduceSub, Int.reduceToNat, reduceCtorEq, ↓reduceIte, f1, decide_false, nmCode, Bool.false_eq_true]
          · simp only [go_sem, Nat.reduceAdd, Nat.reduceLT, Nat.reduceEqDiff, Nat.reduceBEq, Nat.reduceLeDiff, Nat.reduceSub, Int.reduceToNat, reduceCtorEq, ↓reduceIte, f1, decide_false, nmCode]
  · have e1 : ((1 : Int) ≤ (s.size : Int)) = False := eq_false (by omega)
    have eF : fstOK l = false := by
      have : decide (1 ≤ l.length) = false := by simpa using h1
      simp only [fstOK, this, Bool.false_and]
    simp only [go_sem, Nat.reduceAdd, Nat.reduceLT, Nat.reduceEqDiff, Nat.reduceBEq, Nat.reduceLeDiff, Nat.reduceSub, Int.reduceToNat, reduceCtorEq, ↓reduceIte, e1, decide_true, decide_false]
    refine aw_loop (fun m E => ∃ (k : Nat) (ok : Bool), k + m = l.length ∧ ok = (fstOK l && (l.take k).all fun b => signN b.toNat) ∧ E = mkE [(0, .lit (.string s)), (3, .lit (.bool ok)), (4, .lit (.int .i64 (k : Nat)))] []) l.length ?_ ?_
    · exact ⟨0, _, by omega, rfl, by simp only [go_sem, Nat.reduceAdd, Nat.reduceLT, Nat.reduceEqDiff, Nat.reduceBEq, Nat.reduceLeDiff, Nat.reduceSub, Int.reduceToNat, reduceCtorEq, ↓reduceIte, eF, List.take_zero, List.all_nil, Bool.and_true]; rfl⟩
    · rintro m _ ⟨k, ok, hk, hok, rfl⟩
      by_cases hkl : k < l.length
      · have f1 : ((k : Int) < (s.size : Int)) = True := eq_true (by omega)
        obtain ⟨b, hb⟩ : ∃ b, l[k]? = some b := ⟨l[k], List.getElem?_eq_getElem hkl⟩
        have ib := avIxs_l s .i64 k b (by rw [hL]; exact hb)
        have w1 := wrap_succ k (by omega)
        have hstep : (fstOK l && (l.take (k + 1)).all fun b => signN b.toNat) = (ok && signN b.toNat) := by
          rw [List.take_add_one, hb, List.all_append, hok, Bool.and_assoc]
          simp
        cases ok with
        | false =>
          simp only [go_sem, Nat.reduceAdd, Nat.reduceLT, Nat.reduceEqDiff, Nat.reduceBEq, Nat.reduceLeDiff, Nat.reduceSub, Int.reduceToNat, reduceCtorEq, ↓reduceIte, f1, decide_true, ib, w1]
          exact ⟨m - 1, by omega, k + 1, false, by omega, by rw [hstep]; rfl, rfl⟩
        | true =>
          have done : ∀ t : Bool, signN b.toNat = t → t = (fstOK l && (l.take (k + 1)).all fun b => signN b.toNat) := fun t ht => by rw [hstep, ht]; rfl
          by_cases hA : 97 ≤ b.toNat
          · have gA : ((97 : Int) ≤ ((b.toNat : Nat) : Int)) = True := eq_true (by omega)
            by_cases hB : b.toNat ≤ 122
            · have gB : (((b.toNat : Nat) : Int) ≤ 122) = True := eq_true (by omega)
              simp only [go_sem, Nat.reduceAdd, Nat.reduceLT, Nat.reduceEqDiff, Nat.reduceBEq, Nat.reduceLeDiff, Nat.reduceSub, Int.reduceToNat, reduceCtorEq, ↓reduceIte, f1, decide_true, ib, w1, gA, gB]
              exact ⟨m - 1, by omega, k + 1, true, by omega, done true (by simp [signN, letterN, hA, hB]), rfl⟩
            · have gB : (((b.toNat : Nat) : Int) ≤ 122) = False := eq_false (by omega)
              have g48 : ((48 : Int) ≤ ((b.toNat : Nat) : Int)) = True := eq_true (by omega)
              have g57 : (((b.toNat : Nat) : Int) ≤ 57) = False := eq_false (by omega)
              have g45 : (((b.toNat : Nat) : Int) == 45) = false := by simp only [beq_eq_false_iff_ne, ne_eq]; omega
              simp only [go_sem, Nat.reduceAdd, Nat.reduceLT, Nat.reduceEqDiff, Nat.reduceBEq, Nat.reduceLeDiff, Nat.reduceSub, Int.reduceToNat, reduceCtorEq, ↓reduceIte, f1, decide_true, decide_false, ib, w1, gA, gB, g48, g57, g45]
              exact ⟨m - 1, by omega, k + 1, false, by omega, done false (by simp [signN, letterN]; omega), rfl⟩
          · have gA : ((97 : Int) ≤ ((b.toNat : Nat) : Int)) = False := eq_false (by omega)
            by_cases h48 : 48 ≤ b.toNat
            · have g48 : ((48 : Int) ≤ ((b.toNat : Nat) : Int)) = True := eq_true (by omega)
              by_cases h57 : b.toNat ≤ 57
              · have g57 : (((b.toNat : Nat) : Int) ≤ 57) = True := eq_true (by omega)
                simp only [go_sem, Nat.reduceAdd, Nat.reduceLT, Nat.reduceEqDiff, Nat.reduceBEq, Nat.reduceLeDiff, Nat.reduceSub, Int.reduceToNat, reduceCtorEq, ↓reduceIte, f1, decide_true, decide_false, ib, w1, gA, g48, g57]
                exact ⟨m - 1, by omega, k + 1, true, by omega, done true (by simp [signN, h48, h57]), rfl⟩
              · have g57 : (((b.toNat : Nat) : Int) ≤ 57) = False := eq_false (by omega)
                have g45 : (((b.toNat : Nat) : Int) == 45) = false := by simp only [beq_eq_false_iff_ne, ne_eq]; omega
                simp only [go_sem, Nat.reduceAdd, Nat.reduceLT, Nat.reduceEqDiff, Nat.reduceBEq, Nat.reduceLeDiff, Nat.reduceSub, Int.reduceToNat, reduceCtorEq, ↓reduceIte, f1, decide_true, decide_false, ib, w1, gA, g48, g57, g45]
                exact ⟨m - 1, by omega, k + 1, false, by omega, done false (by simp [signN, letterN]; omega), rfl⟩
            · have g48 : ((48 : Int) ≤ ((b.toNat : Nat) : Int)) = False := eq_false (by omega)
              by_cases h45 : b.toNat = 45
              · have g45 : (((b.toNat : Nat) : Int) == 45) = true := by rw [h45]; rfl
                simp only [go_sem, Nat.reduceAdd, Nat.reduceLT, Nat.reduceEqDiff, Nat.reduceBEq, Nat.reduceLeDiff, Nat.reduceSub, Int.reduceToNat, reduceCtorEq, ↓reduceIte, f1, decide_true, decide_false, ib, w1, gA, g48, g45]
                exact ⟨m - 1, by omega, k + 1, true, by omega, done true (by simp [signN, h45]), rfl⟩
              · have g45 : (((b.toNat : Nat) : Int) == 45) = false := by simp only [beq_eq_false_iff_ne, ne_eq]; omega
                simp only [go_sem, Nat.reduceAdd, Nat.reduceLT, Nat.reduceEqDiff, Nat.reduceBEq, Nat.reduceLeDiff, Nat.reduceSub, Int.reduceToNat, reduceCtorEq, ↓reduceIte, f1, decide_true, decide_false, ib, w1, gA, g48, g45]
                exact ⟨m - 1, by omega, k + 1, false, by omega, done false (by simp [signN, letterN]; omega), rfl⟩
      · have f1 : ((k : Int) < (s.size : Int)) = False := eq_false (by omega)
        rw [List.take_of_length_le (by omega), ← hf] at hok
        rw [← hok]
        cases ok
        · simp only [go_sem, Nat.reduceAdd, Nat.reduceLT, Nat.reduceEqDiff, Nat.reduceBEq, Nat.reduceLeDiff, Nat.reduceSub, Int.reduceToNat, reduceCtorEq, ↓reduceIte, f1, decide_false, nmCode, Bool.false_eq_true]
        · simp only [go_sem, Nat.reduceAdd, Nat.reduceLT, Nat.reduceEqDiff, Nat.reduceBEq, Nat.reduceLeDiff, Nat.reduceSub, Int.reduceToNat, reduceCtorEq, ↓reduceIte, f1, decide_false, nmCode]

theorem lnW_eq (q : Nat × List (List UInt8)) : lnW q = avLine (q.1, q.2.map toB) := by
  simp only [lnW, avLine, List.map_map]
  rfl
theorem oAV_eq (R : WL) : oAV R = outAV [73] (R.map fun q => (q.1, q.2.map toB)) := by
  cases R with
  | nil => rfl
  | cons p r =>
    simp only [oAV, outAV, List.map_cons, List.map_map, lnW_eq]
    congr 2
    exact List.map_congr_left fun q _ => lnW_eq q

theorem errN_O (ok : Bool) : errN ok = errO (if ok = true then none else some 1) := by cases ok <;> rfl
theorem name_code (ok : Bool) : (codeO (if ok = true then none else some 1) == nmCode ok) = true := by cases ok <;> decide
theorem lexV_mem (w : ByteArray) (most : Int) : ∀ i, (lexV w most).2 = some i → i ∈ sentL := by
  intro i hi
  unfold lexV at hi
  repeat' split at hi
  all_goals first
    | (injection hi with hi; subst hi; decide)
    | cases hi

theorem fB_len : ∀ (l cur : List UInt8), (fB l cur).length ≤ l.length + 1
  | [], cur => by rw [fB]; split <;> simp
  | b :: r, cur => by
    rw [fB]
    have h1 := fB_len r []
    have h2 := fB_len r (cur ++ [b])
    simp only [List.length_cons]
    repeat' split
    all_goals (first | omega | (simp only [List.length_cons]; omega))
theorem words_len (x : ByteArray) : (wordsOf x).length ≤ x.size + 1 := by
  unfold wordsOf
  rw [fields_fB, List.length_map]
  have h1 := fB_len (⟨(Lib.cut x.data.toList [35]).1.toArray⟩ : ByteArray).data.toList []
  have h2 := cutN_size 35 x
  rw [← Lib.size_eq] at h1
  omega
theorem lines_mem : ∀ (ps : List ByteArray) (i : Nat) (p : Nat × List ByteArray), p ∈ linesGo i ps → ∃ x ∈ ps, p.2 = wordsOf x
  | [], _, _, h => by cases h
  | x :: ps, i, p, h => by
    rw [linesGo] at h
    rcases List.mem_append.1 h with h | h
    · unfold lineOf at h
      split at h
      · cases h
      · rw [List.mem_singleton] at h
        exact ⟨x, List.mem_cons_self, by rw [h]⟩
    · obtain ⟨y, hy, e⟩ := lines_mem ps (i + 1) p h
      exact ⟨y, List.mem_cons_of_mem _ hy, e⟩

theorem AC_LexSays (s w : ByteArray) (most : Int) : AC Tryd.prog f_rivuletlaw5_LexSays [avStr s, avStr w, .lit (.int .i64 most)] (.lit (.bool true)) := by
  refine ac_rivuletlaw5_LexSays ?_ (Nat.le_add_left 3 _)
  simp only [go_sem, Nat.reduceAdd, Nat.reduceLT, Nat.reduceEqDiff, Nat.reduceBEq, Nat.reduceLeDiff, Nat.reduceSub, Int.reduceToNat, reduceCtorEq, ↓reduceIte, c_rivuletlaw5_LexSays, avStr]
  refine callX_of C_first5 ?_
  by_cases h500 : 500 < s.size
  · have e : ((500 : Int) < (s.size : Int)) = True := eq_true (by omega)
    simp only [go_sem, Nat.reduceAdd, Nat.reduceLT, Nat.reduceEqDiff, Nat.reduceBEq, Nat.reduceLeDiff, Nat.reduceSub, Int.reduceToNat, reduceCtorEq, ↓reduceIte, e, decide_true]
  have e500 : ((500 : Int) < (s.size : Int)) = False := eq_false (by omega)
  by_cases h40 : 40 < w.size
  · have e : ((40 : Int) < (w.size : Int)) = True := eq_true (by omega)
    simp only [go_sem, Nat.reduceAdd, Nat.reduceLT, Nat.reduceEqDiff, Nat.reduceBEq, Nat.reduceLeDiff, Nat.reduceSub, Int.reduceToNat, reduceCtorEq, ↓reduceIte, e500, e, decide_true, decide_false]
  have e40 : ((40 : Int) < (w.size : Int)) = False := eq_false (by omega)
  have hL := C_Lines s (by omega)
  have hX := C_rLines s (by omega)
  rw [oAV_eq, rL_lines] at hX
  have hI0 := C_Is none (fun i hi => by cases hi) 0
  have hI0' : (codeO none == (0 : Int)) = true := rfl
  rw [hI0'] at hI0
  have hNum := C_lexNumber w most (by omega)
  have hR5 := C_r5Number w most
  rw [r5_eq] at hR5
  have hIs := C_Is (lexV w most).2 (lexV_mem w most) (codeO (lexV w most).2)
  rw [beq_self_eq_true] at hIs
  have hNm := C_Name w (by omega)
  have hRn := C_r5Name w (by omega)
  rw [errN_O] at hNm
  generalize nameOK w.data.toList = nok at hNm hRn
  have hIn := C_Is (if nok = true then none else some 1) (fun i hi => by cases nok <;> simp at hi; subst hi; decide) (nmCode nok)
  rw [name_code] at hIn
  generalize lexV w most = lv at hNum hR5 hIs
  obtain ⟨lv1, lv2⟩ := lv
  generalize hLS : linesV s = L at hL hX
  have hLlen : L.length ≤ 600 := by
    rw [← hLS]
    have h1 := linesGo_len (parts s 10) 0
    have h2 := parts_len s 10
    show (linesGo 0 (parts s 10)).length ≤ 600
    omega
  have hwl : ∀ p ∈ L, p.2.length < 9223372036854775807 := by
    intro p hp
    rw [← hLS] at hp
    obtain ⟨x, hx, e⟩ := lines_mem _ _ _ hp
    have h1 := words_len x
    have h2 := part_size s 10 x hx
    rw [e]
    omega
  simp only [avStr] at hL hX hI0 hNum hR5 hNm hRn
  simp only [errO] at hI0
  cases L with
  | nil =>
    simp only [outAV] at hL hX
    simp only [go_sem, Nat.reduceAdd, Nat.reduceLT, Nat.reduceEqDiff, Nat.reduceBEq, Nat.reduceLeDiff, Nat.reduceSub, Int.reduceToNat, reduceCtorEq, ↓reduceIte, e500, e40, decide_false, avStr]
    refine callX_of hL ?_
    simp only [go_sem, Nat.reduceAdd, Nat.reduceLT, Nat.reduceEqDiff, Nat.reduceBEq, Nat.reduceLeDiff, Nat.reduceSub, Int.reduceToNat, reduceCtorEq, ↓reduceIte, avStr]
    refine callX_of hX ?_
    simp only [go_sem, Nat.reduceAdd, Nat.reduceLT, Nat.reduceEqDiff, Nat.reduceBEq, Nat.reduceLeDiff, Nat.reduceSub, Int.reduceToNat, reduceCtorEq, ↓reduceIte, avStr]
    refine callX_of hI0 ?_
    simp only [go_sem, Nat.reduceAdd, Nat.reduceLT, Nat.reduceEqDiff, Nat.reduceBEq, Nat.reduceLeDiff, Nat.reduceSub, Int.reduceToNat, reduceCtorEq, ↓reduceIte, avStr, List.length_nil, bne_self_eq_false]
    refine aw_loop (fun m E => E = mkE [(1, .lit (.string w)), (2, .lit (.int .i64 most)), (8, .sl .nil 0 []), (10, .sl .nil 0 []), (12, .lit (.int .i64 0))] []) 1 ?_ ?_
    · simp only [go_sem, Nat.reduceAdd, Nat.reduceLT, Nat.reduceEqDiff, Nat.reduceBEq, Nat.reduceLeDiff, Nat.reduceSub, Int.reduceToNat, reduceCtorEq, ↓reduceIte]
    · rintro m _ rfl
      simp only [go_sem, Nat.reduceAdd, Nat.reduceLT, Nat.reduceEqDiff, Nat.reduceBEq, Nat.reduceLeDiff, Nat.reduceSub, Int.reduceToNat, reduceCtorEq, ↓reduceIte, List.length_nil, c0, Int.lt_irrefl, decide_false, avStr]
      refine callX_of hNum ?_
      cases lv2 <;> (
        simp only [errO] at hNum hIs
        simp only [go_sem, Nat.reduceAdd, Nat.reduceLT, Nat.reduceEqDiff, Nat.reduceBEq, Nat.reduceLeDiff, Nat.reduceSub, Int.reduceToNat, reduceCtorEq, ↓reduceIte, errO]
        refine callX_of hR5 ?_
        simp only [go_sem, Nat.reduceAdd, Nat.reduceLT, Nat.reduceEqDiff, Nat.reduceBEq, Nat.reduceLeDiff, Nat.reduceSub, Int.reduceToNat, reduceCtorEq, ↓reduceIte, beq_self_eq_true]
        refine callX_of hIs ?_
        simp only [go_sem, Nat.reduceAdd, Nat.reduceLT, Nat.reduceEqDiff, Nat.reduceBEq, Nat.reduceLeDiff, Nat.reduceSub, Int.reduceToNat, reduceCtorEq, ↓reduceIte]
        refine callX_of hNm ?_
        cases nok <;> (
          simp only [Bool.false_eq_true, if_true, if_false, errO] at hNm hIn
          simp only [go_sem, Nat.reduceAdd, Nat.reduceLT, Nat.reduceEqDiff, Nat.reduceBEq, Nat.reduceLeDiff, Nat.reduceSub, Int.reduceToNat, reduceCtorEq, ↓reduceIte, Bool.false_eq_true, errO]
          refine callX_of hRn ?_
          simp only [go_sem, Nat.reduceAdd, Nat.reduceLT, Nat.reduceEqDiff, Nat.reduceBEq, Nat.reduceLeDiff, Nat.reduceSub, Int.reduceToNat, reduceCtorEq, ↓reduceIte]
          refine callX_of hIn ?_
          simp only [go_sem, Nat.reduceAdd, Nat.reduceLT, Nat.reduceEqDiff, Nat.reduceBEq, Nat.reduceLeDiff, Nat.reduceSub, Int.reduceToNat, reduceCtorEq, ↓reduceIte]))
  | cons p0 ps =>
    simp only [outAV] at hL hX
    generalize hLL : p0 :: ps = L at hL hX hLlen hwl
    simp only [go_sem, Nat.reduceAdd, Nat.reduceLT, Nat.reduceEqDiff, Nat.reduceBEq, Nat.reduceLeDiff, Nat.reduceSub, Int.reduceToNat, reduceCtorEq, ↓reduceIte, e500, e40, decide_false, avStr]
    refine callX_of hL ?_
    simp only [go_sem, Nat.reduceAdd, Nat.reduceLT, Nat.reduceEqDiff, Nat.reduceBEq, Nat.reduceLeDiff, Nat.reduceSub, Int.reduceToNat, reduceCtorEq, ↓reduceIte, avStr]
    refine callX_of hX ?_
    simp only [go_sem, Nat.reduceAdd, Nat.reduceLT, Nat.reduceEqDiff, Nat.reduceBEq, Nat.reduceLeDiff, Nat.reduceSub, Int.reduceToNat, reduceCtorEq, ↓reduceIte, avStr]
    refine callX_of hI0 ?_
    simp only [go_sem, Nat.reduceAdd, Nat.reduceLT, Nat.reduceEqDiff, Nat.reduceBEq, Nat.reduceLeDiff, Nat.reduceSub, Int.reduceToNat, reduceCtorEq, ↓reduceIte, avStr, List.length_map, bne_self_eq_false]
    refine aw_loop (fun m E => ∃ k : Nat, k + m = L.length ∧ E = mkE [(1, .lit (.string w)), (2, .lit (.int .i64 most)), (8, .sl (.own [30, 37]) 2 (L.map avLine)), (10, .sl (.own [35, 73]) 2 (L.map avLine)), (12, .lit (.int .i64 (k : Nat)))] []) L.length ?_ ?_
    · exact ⟨0, by omega, by simp only [go_sem, Nat.reduceAdd, Nat.reduceLT, Nat.reduceEqDiff, Nat.reduceBEq, Nat.reduceLeDiff, Nat.reduceSub, Int.reduceToNat, reduceCtorEq, ↓reduceIte]; rfl⟩
    · rintro m _ ⟨k, hk, rfl⟩
      by_cases hkl : k < L.length
      · have f1 : ((k : Int) < (L.length : Int)) = True := eq_true (by omega)
        have f2 : (0 ≤ (k : Int)) = True := eq_true (by omega)
        obtain ⟨p, hp⟩ : ∃ p, L[k]? = some p := ⟨L[k], List.getElem?_eq_getElem hkl⟩
        have hg : (L.map avLine)[k]? = some (avLine p) := by rw [List.getElem?_map, hp]; rfl
        have w1 := wrap_succ k (by omega)
        have hS := C_SameTexts (.sl .none 1 (p.2.map avStr)) (.sl .none 1 (p.2.map avStr)) p.2 p.2 (.inl rfl) (.inl rfl) (by have := hwl p (List.mem_of_getElem? hp); omega)
        rw [decide_eq_true rfl] at hS
        simp only [go_sem, Nat.reduceAdd, Nat.reduceLT, Nat.reduceEqDiff, Nat.reduceBEq, Nat.reduceLeDiff, Nat.reduceSub, Int.reduceToNat, reduceCtorEq, ↓reduceIte, List.length_map, f1, f2, decide_true, Int.toNat_natCast, hg, avLine, bne_self_eq_false]
        refine callX_of hS ?_
        simp only [go_sem, Nat.reduceAdd, Nat.reduceLT, Nat.reduceEqDiff, Nat.reduceBEq, Nat.reduceLeDiff, Nat.reduceSub, Int.reduceToNat, reduceCtorEq, ↓reduceIte, w1]
        exact ⟨m - 1, by omega, k + 1, by omega, rfl⟩
      · have f1 : ((k : Int) < (L.length : Int)) = False := eq_false (by omega)
        simp only [go_sem, Nat.reduceAdd, Nat.reduceLT, Nat.reduceEqDiff, Nat.reduceBEq, Nat.reduceLeDiff, Nat.reduceSub, Int.reduceToNat, reduceCtorEq, ↓reduceIte, List.length_map, f1, decide_false, avStr]
        refine callX_of hNum ?_
        cases lv2 <;> (
          simp only [errO] at hNum hIs
          simp only [go_sem, Nat.reduceAdd, Nat.reduceLT, Nat.reduceEqDiff, Nat.reduceBEq, Nat.reduceLeDiff, Nat.reduceSub, Int.reduceToNat, reduceCtorEq, ↓reduceIte, errO]
          refine callX_of hR5 ?_
          simp only [go_sem, Nat.reduceAdd, Nat.reduceLT, Nat.reduceEqDiff, Nat.reduceBEq, Nat.reduceLeDiff, Nat.reduceSub, Int.reduceToNat, reduceCtorEq, ↓reduceIte, beq_self_eq_true]
          refine callX_of hIs ?_
          simp only [go_sem, Nat.reduceAdd, Nat.reduceLT, Nat.reduceEqDiff, Nat.reduceBEq, Nat.reduceLeDiff, Nat.reduceSub, Int.reduceToNat, reduceCtorEq, ↓reduceIte]
          refine callX_of hNm ?_
          cases nok <;> (
            simp only [Bool.false_eq_true, if_true, if_false, errO] at hNm hIn
            simp only [go_sem, Nat.reduceAdd, Nat.reduceLT, Nat.reduceEqDiff, Nat.reduceBEq, Nat.reduceLeDiff, Nat.reduceSub, Int.reduceToNat, reduceCtorEq, ↓reduceIte, Bool.false_eq_true, errO]
            refine callX_of hRn ?_
            simp only [go_sem, Nat.reduceAdd, Nat.reduceLT, Nat.reduceEqDiff, Nat.reduceBEq, Nat.reduceLeDiff, Nat.reduceSub, Int.reduceToNat, reduceCtorEq, ↓reduceIte]
            refine callX_of hIn ?_
            simp only [go_sem, Nat.reduceAdd, Nat.reduceLT, Nat.reduceEqDiff, Nat.reduceBEq, Nat.reduceLeDiff, Nat.reduceSub, Int.reduceToNat, reduceCtorEq, ↓reduceIte]))

end Go.Proofs.YtodnphnbnneegaaDoor.VL
