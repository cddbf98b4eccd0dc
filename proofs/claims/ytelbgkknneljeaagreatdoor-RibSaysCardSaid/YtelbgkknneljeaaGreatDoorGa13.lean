import Derived.Test.YtelbgkknneljeaaGreatDoorGa12
set_option linter.unusedVariables false
set_option linter.unusedSimpArgs false
section
set_option maxHeartbeats 4000000
namespace Go.Proofs.YtelbgkknneljeaaGreatDoor.VL
open Go.RowKit Go.Proofs
def nmCode (ok : Bool) : Int := if ok = true then 0 else 109
def fstOK (l : List UInt8) : Bool := decide (1 ≤ l.length) && (decide (l.length ≤ 12) && hd0 l[0]?)
theorem nameOK_fst (l : List UInt8) : nameOK l = (fstOK l && l.all fun b => signN b.toNat) := by
  simp only [nameOK, fstOK, Bool.and_assoc]
theorem C_r5Name (s : ByteArray) (hs : s.size < 9223372036854775808) : AC Tryz.prog f_q123 [avStr s] (.lit (.int .i64 (nmCode (nameOK s.data.toList)))) := by
  refine ac_q123 ?_ (Nat.le_add_left 1 _)
  have hsz : s.size = s.data.toList.length := Lib.size_eq s
  simp only [go_sem, c_q123, avStr]
  generalize hL : s.data.toList = l at hsz
  have hf := nameOK_fst l
  by_cases h1 : 1 ≤ l.length
  · have e1 : ((1 : Int) ≤ (s.size : Int)) = True := eq_true (by omega)
    obtain ⟨b0, hb0⟩ : ∃ b, l[0]? = some b := ⟨l[0], List.getElem?_eq_getElem (by omega)⟩
    have i0 := avIxs_l s .i64 0 b0 (by rw [hL]; exact hb0)
    rw [show ((0 : Nat) : Int) = 0 from rfl] at i0
    have d1 : decide (1 ≤ l.length) = true := by simpa using h1
    by_cases h2 : l.length ≤ 12
    · have e2 : ((s.size : Int) ≤ 12) = True := eq_true (by omega)
      have d2 : decide (l.length ≤ 12) = true := by simpa using h2
      by_cases hA : 97 ≤ b0.toNat
      · have gA : ((97 : Int) ≤ ((b0.toNat : Nat) : Int)) = True := eq_true (by omega)
        by_cases hB : b0.toNat ≤ 122
        · have gB : (((b0.toNat : Nat) : Int) ≤ 122) = True := eq_true (by omega)
          have eF : fstOK l = true := by simp only [fstOK, d1, d2, hb0, hd0, letterN, hA, hB, decide_true, Bool.and_self]
          simp only [go_sem, e1, e2, i0, gA, gB, decide_true, decide_false]
          refine aw_loop (fun m E => ∃ (k : Nat) (ok : Bool), k + m = l.length ∧ ok = (fstOK l && (l.take k).all fun b => signN b.toNat) ∧ E = mkE [(0, .lit (.string s)), (3, .lit (.bool ok)), (4, .lit (.int .i64 (k : Nat)))] []) l.length ?_ ?_
          · exact ⟨0, _, by omega, rfl, by simp only [go_sem, eF, List.take_zero, List.all_nil, Bool.and_true]; rfl⟩
          · rintro m _ ⟨k, ok, hk, hok, rfl⟩
            by_cases hkl : k < l.length
            · have f1 : ((k : Int) < (s.size : Int)) = True := eq_true (by omega)
              obtain ⟨b, hb⟩ : ∃ b, l[k]? = some b := ⟨l[k], List.getElem?_eq_getElem hkl⟩
              have ib := avIxs_l s .i64 k b (by rw [hL]; exact hb)
              have w1 := wrap_succ k (by omega)
              have hstep : (fstOK l && (l.take (k + 1)).all fun b => signN b.toNat) = (ok && signN b.toNat) := by
                rw [List.take_add_one, hb, List.all_append, hok, Bool.and_assoc]
                simp
              cases ok with
              | false =>
                simp only [go_sem, f1, decide_true, ib, w1]
                exact ⟨m - 1, by omega, k + 1, false, by omega, by rw [hstep]; rfl, rfl⟩
              | true =>
                have done : ∀ t : Bool, signN b.toNat = t → t = (fstOK l && (l.take (k + 1)).all fun b => signN b.toNat) := fun t ht => by rw [hstep, ht]; rfl
                by_cases hA : 97 ≤ b.toNat
                · have gA : ((97 : Int) ≤ ((b.toNat : Nat) : Int)) = True := eq_true (by omega)
                  by_cases hB : b.toNat ≤ 122
                  · have gB : (((b.toNat : Nat) : Int) ≤ 122) = True := eq_true (by omega)
                    simp only [go_sem, f1, decide_true, ib, w1, gA, gB]
                    exact ⟨m - 1, by omega, k + 1, true, by omega, done true (by simp [signN, letterN, hA, hB]), rfl⟩
                  · have gB : (((b.toNat : Nat) : Int) ≤ 122) = False := eq_false (by omega)
                    have g48 : ((48 : Int) ≤ ((b.toNat : Nat) : Int)) = True := eq_true (by omega)
                    have g57 : (((b.toNat : Nat) : Int) ≤ 57) = False := eq_false (by omega)
                    have g45 : (((b.toNat : Nat) : Int) == 45) = false := by simp only [beq_eq_false_iff_ne, ne_eq]; omega
                    simp only [go_sem, f1, decide_true, decide_false, ib, w1, gA, gB, g48, g57, g45]
                    exact ⟨m - 1, by omega, k + 1, false, by omega, done false (by simp [signN, letterN]; omega), rfl⟩
                · have gA : ((97 : Int) ≤ ((b.toNat : Nat) : Int)) = False := eq_false (by omega)
                  by_cases h48 : 48 ≤ b.toNat
                  · have g48 : ((48 : Int) ≤ ((b.toNat : Nat) : Int)) = True := eq_true (by omega)
                    by_cases h57 : b.toNat ≤ 57
                    · have g57 : (((b.toNat : Nat) : Int) ≤ 57) = True := eq_true (by omega)
                      simp only [go_sem, f1, decide_true, decide_false, ib, w1, gA, g48, g57]
                      exact ⟨m - 1, by omega, k + 1, true, by omega, done true (by simp [signN, h48, h57]), rfl⟩
                    · have g57 : (((b.toNat : Nat) : Int) ≤ 57) = False := eq_false (by omega)
                      have g45 : (((b.toNat : Nat) : Int) == 45) = false := by simp only [beq_eq_false_iff_ne, ne_eq]; omega
                      simp only [go_sem, f1, decide_true, decide_false, ib, w1, gA, g48, g57, g45]
                      exact ⟨m - 1, by omega, k + 1, false, by omega, done false (by simp [signN, letterN]; omega), rfl⟩
                  · have g48 : ((48 : Int) ≤ ((b.toNat : Nat) : Int)) = False := eq_false (by omega)
                    by_cases h45 : b.toNat = 45
                    · have g45 : (((b.toNat : Nat) : Int) == 45) = true := by rw [h45]; rfl
                      simp only [go_sem, f1, decide_true, decide_false, ib, w1, gA, g48, g45]
                      exact ⟨m - 1, by omega, k + 1, true, by omega, done true (by simp [signN, h45]), rfl⟩
                    · have g45 : (((b.toNat : Nat) : Int) == 45) = false := by simp only [beq_eq_false_iff_ne, ne_eq]; omega
                      simp only [go_sem, f1, decide_true, decide_false, ib, w1, gA, g48, g45]
                      exact ⟨m - 1, by omega, k + 1, false, by omega, done false (by simp [signN, letterN]; omega), rfl⟩
            · have f1 : ((k : Int) < (s.size : Int)) = False := eq_false (by omega)
              rw [List.take_of_length_le (by omega), ← hf] at hok
              rw [← hok]
              cases ok
              · simp only [go_sem, f1, decide_false, nmCode, Bool.false_eq_true]
              · simp only [go_sem, f1, decide_false, nmCode]
        · have gB : (((b0.toNat : Nat) : Int) ≤ 122) = False := eq_false (by omega)
          have eF : fstOK l = false := by simp [fstOK, hb0, hd0, letterN, hB]
          simp only [go_sem, e1, e2, i0, gA, gB, decide_true, decide_false]
          refine aw_loop (fun m E => ∃ (k : Nat) (ok : Bool), k + m = l.length ∧ ok = (fstOK l && (l.take k).all fun b => signN b.toNat) ∧ E = mkE [(0, .lit (.string s)), (3, .lit (.bool ok)), (4, .lit (.int .i64 (k : Nat)))] []) l.length ?_ ?_
          · exact ⟨0, _, by omega, rfl, by simp only [go_sem, eF, List.take_zero, List.all_nil, Bool.and_true]; rfl⟩
          · rintro m _ ⟨k, ok, hk, hok, rfl⟩
            by_cases hkl : k < l.length
            · have f1 : ((k : Int) < (s.size : Int)) = True := eq_true (by omega)
              obtain ⟨b, hb⟩ : ∃ b, l[k]? = some b := ⟨l[k], List.getElem?_eq_getElem hkl⟩
              have ib := avIxs_l s .i64 k b (by rw [hL]; exact hb)
              have w1 := wrap_succ k (by omega)
              have hstep : (fstOK l && (l.take (k + 1)).all fun b => signN b.toNat) = (ok && signN b.toNat) := by
                rw [List.take_add_one, hb, List.all_append, hok, Bool.and_assoc]
                simp
              cases ok with
              | false =>
                simp only [go_sem, f1, decide_true, ib, w1]
                exact ⟨m - 1, by omega, k + 1, false, by omega, by rw [hstep]; rfl, rfl⟩
              | true =>
                have done : ∀ t : Bool, signN b.toNat = t → t = (fstOK l && (l.take (k + 1)).all fun b => signN b.toNat) := fun t ht => by rw [hstep, ht]; rfl
                by_cases hA : 97 ≤ b.toNat
                · have gA : ((97 : Int) ≤ ((b.toNat : Nat) : Int)) = True := eq_true (by omega)
                  by_cases hB : b.toNat ≤ 122
                  · have gB : (((b.toNat : Nat) : Int) ≤ 122) = True := eq_true (by omega)
                    simp only [go_sem, f1, decide_true, ib, w1, gA, gB]
                    exact ⟨m - 1, by omega, k + 1, true, by omega, done true (by simp [signN, letterN, hA, hB]), rfl⟩
                  · have gB : (((b.toNat : Nat) : Int) ≤ 122) = False := eq_false (by omega)
                    have g48 : ((48 : Int) ≤ ((b.toNat : Nat) : Int)) = True := eq_true (by omega)
                    have g57 : (((b.toNat : Nat) : Int) ≤ 57) = False := eq_false (by omega)
                    have g45 : (((b.toNat : Nat) : Int) == 45) = false := by simp only [beq_eq_false_iff_ne, ne_eq]; omega
                    simp only [go_sem, f1, decide_true, decide_false, ib, w1, gA, gB, g48, g57, g45]
                    exact ⟨m - 1, by omega, k + 1, false, by omega, done false (by simp [signN, letterN]; omega), rfl⟩
                · have gA : ((97 : Int) ≤ ((b.toNat : Nat) : Int)) = False := eq_false (by omega)
                  by_cases h48 : 48 ≤ b.toNat
                  · have g48 : ((48 : Int) ≤ ((b.toNat : Nat) : Int)) = True := eq_true (by omega)
                    by_cases h57 : b.toNat ≤ 57
                    · have g57 : (((b.toNat : Nat) : Int) ≤ 57) = True := eq_true (by omega)
                      simp only [go_sem, f1, decide_true, decide_false, ib, w1, gA, g48, g57]
                      exact ⟨m - 1, by omega, k + 1, true, by omega, done true (by simp [signN, h48, h57]), rfl⟩
                    · have g57 : (((b.toNat : Nat) : Int) ≤ 57) = False := eq_false (by omega)
                      have g45 : (((b.toNat : Nat) : Int) == 45) = false := by simp only [beq_eq_false_iff_ne, ne_eq]; omega
                      simp only [go_sem, f1, decide_true, decide_false, ib, w1, gA, g48, g57, g45]
                      exact ⟨m - 1, by omega, k + 1, false, by omega, done false (by simp [signN, letterN]; omega), rfl⟩
                  · have g48 : ((48 : Int) ≤ ((b.toNat : Nat) : Int)) = False := eq_false (by omega)
                    by_cases h45 : b.toNat = 45
                    · have g45 : (((b.toNat : Nat) : Int) == 45) = true := by rw [h45]; rfl
                      simp only [go_sem, f1, decide_true, decide_false, ib, w1, gA, g48, g45]
                      exact ⟨m - 1, by omega, k + 1, true, by omega, done true (by simp [signN, h45]), rfl⟩
                    · have g45 : (((b.toNat : Nat) : Int) == 45) = false := by simp only [beq_eq_false_iff_ne, ne_eq]; omega
                      simp only [go_sem, f1, decide_true, decide_false, ib, w1, gA, g48, g45]
                      exact ⟨m - 1, by omega, k + 1, false, by omega, done false (by simp [signN, letterN]; omega), rfl⟩
            · have f1 : ((k : Int) < (s.size : Int)) = False := eq_false (by omega)
              rw [List.take_of_length_le (by omega), ← hf] at hok
              rw [← hok]
              cases ok
              · simp only [go_sem, f1, decide_false, nmCode, Bool.false_eq_true]
              · simp only [go_sem, f1, decide_false, nmCode]
      · have gA : ((97 : Int) ≤ ((b0.toNat : Nat) : Int)) = False := eq_false (by omega)
        have eF : fstOK l = false := by simp [fstOK, hb0, hd0, letterN, hA]
        simp only [go_sem, e1, e2, i0, gA, decide_true, decide_false]
        refine aw_loop (fun m E => ∃ (k : Nat) (ok : Bool), k + m = l.length ∧ ok = (fstOK l && (l.take k).all fun b => signN b.toNat) ∧ E = mkE [(0, .lit (.string s)), (3, .lit (.bool ok)), (4, .lit (.int .i64 (k : Nat)))] []) l.length ?_ ?_
        · exact ⟨0, _, by omega, rfl, by simp only [go_sem, eF, List.take_zero, List.all_nil, Bool.and_true]; rfl⟩
        · rintro m _ ⟨k, ok, hk, hok, rfl⟩
          by_cases hkl : k < l.length
          · have f1 : ((k : Int) < (s.size : Int)) = True := eq_true (by omega)
            obtain ⟨b, hb⟩ : ∃ b, l[k]? = some b := ⟨l[k], List.getElem?_eq_getElem hkl⟩
            have ib := avIxs_l s .i64 k b (by rw [hL]; exact hb)
            have w1 := wrap_succ k (by omega)
            have hstep : (fstOK l && (l.take (k + 1)).all fun b => signN b.toNat) = (ok && signN b.toNat) := by
              rw [List.take_add_one, hb, List.all_append, hok, Bool.and_assoc]
              simp
            cases ok with
            | false =>
              simp only [go_sem, f1, decide_true, ib, w1]
              exact ⟨m - 1, by omega, k + 1, false, by omega, by rw [hstep]; rfl, rfl⟩
            | true =>
              have done : ∀ t : Bool, signN b.toNat = t → t = (fstOK l && (l.take (k + 1)).all fun b => signN b.toNat) := fun t ht => by rw [hstep, ht]; rfl
              by_cases hA : 97 ≤ b.toNat
              · have gA : ((97 : Int) ≤ ((b.toNat : Nat) : Int)) = True := eq_true (by omega)
                by_cases hB : b.toNat ≤ 122
                · have gB : (((b.toNat : Nat) : Int) ≤ 122) = True := eq_true (by omega)
                  simp only [go_sem, f1, decide_true, ib, w1, gA, gB]
                  exact ⟨m - 1, by omega, k + 1, true, by omega, done true (by simp [signN, letterN, hA, hB]), rfl⟩
                · have gB : (((b.toNat : Nat) : Int) ≤ 122) = False := eq_false (by omega)
                  have g48 : ((48 : Int) ≤ ((b.toNat : Nat) : Int)) = True := eq_true (by omega)
                  have g57 : (((b.toNat : Nat) : Int) ≤ 57) = False := eq_false (by omega)
                  have g45 : (((b.toNat : Nat) : Int) == 45) = false := by simp only [beq_eq_false_iff_ne, ne_eq]; omega
                  simp only [go_sem, f1, decide_true, decide_false, ib, w1, gA, gB, g48, g57, g45]
                  exact ⟨m - 1, by omega, k + 1, false, by omega, done false (by simp [signN, letterN]; omega), rfl⟩
              · have gA : ((97 : Int) ≤ ((b.toNat : Nat) : Int)) = False := eq_false (by omega)
                by_cases h48 : 48 ≤ b.toNat
                · have g48 : ((48 : Int) ≤ ((b.toNat : Nat) : Int)) = True := eq_true (by omega)
                  by_cases h57 : b.toNat ≤ 57
                  · have g57 : (((b.toNat : Nat) : Int) ≤ 57) = True := eq_true (by omega)
                    simp only [go_sem, f1, decide_true, decide_false, ib, w1, gA, g48, g57]
                    exact ⟨m - 1, by omega, k + 1, true, by omega, done true (by simp [signN, h48, h57]), rfl⟩
                  · have g57 : (((b.toNat : Nat) : Int) ≤ 57) = False := eq_false (by omega)
                    have g45 : (((b.toNat : Nat) : Int) == 45) = false := by simp only [beq_eq_false_iff_ne, ne_eq]; omega
                    simp only [go_sem, f1, decide_true, decide_false, ib, w1, gA, g48, g57, g45]
                    exact ⟨m - 1, by omega, k + 1, false, by omega, done false (by simp [signN, letterN]; omega), rfl⟩
                · have g48 : ((48 : Int) ≤ ((b.toNat : Nat) : Int)) = False := eq_false (by omega)
                  by_cases h45 : b.toNat = 45
                  · have g45 : (((b.toNat : Nat) : Int) == 45) = true := by rw [h45]; rfl
                    simp only [go_sem, f1, decide_true, decide_false, ib, w1, gA, g48, g45]
                    exact ⟨m - 1, by omega, k + 1, true, by omega, done true (by simp [signN, h45]), rfl⟩
                  · have g45 : (((b.toNat : Nat) : Int) == 45) = false := by simp only [beq_eq_false_iff_ne, ne_eq]; omega
                    simp only [go_sem, f1, decide_true, decide_false, ib, w1, gA, g48, g45]
                    exact ⟨m - 1, by omega, k + 1, false, by omega, done false (by simp [signN, letterN]; omega), rfl⟩
          · have f1 : ((k : Int) < (s.size : Int)) = False := eq_false (by omega)
            rw [List.take_of_length_le (by omega), ← hf] at hok
            rw [← hok]
            cases ok
            · simp only [go_sem, f1, decide_false, nmCode, Bool.false_eq_true]
            · simp only [go_sem, f1, decide_false, nmCode]
    · have e2 : ((s.size : Int) ≤ 12) = False := eq_false (by omega)
      have eF : fstOK l = false := by simp [fstOK, h2]
      simp only [go_sem, e1, e2, decide_true, decide_false]
      refine aw_loop (fun m E => ∃ (k : Nat) (ok : Bool), k + m = l.length ∧ ok = (fstOK l && (l.take k).all fun b => signN b.toNat) ∧ E = mkE [(0, .lit (.string s)), (3, .lit (.bool ok)), (4, .lit (.int .i64 (k : Nat)))] []) l.length ?_ ?_
      · exact ⟨0, _, by omega, rfl, by simp only [go_sem, eF, List.take_zero, List.all_nil, Bool.and_true]; rfl⟩
      · rintro m _ ⟨k, ok, hk, hok, rfl⟩
        by_cases hkl : k < l.length
        · have f1 : ((k : Int) < (s.size : Int)) = True := eq_true (by omega)
          obtain ⟨b, hb⟩ : ∃ b, l[k]? = some b := ⟨l[k], List.getElem?_eq_getElem hkl⟩
          have ib := avIxs_l s .i64 k b (by rw [hL]; exact hb)
          have w1 := wrap_succ k (by omega)
          have hstep : (fstOK l && (l.take (k + 1)).all fun b => signN b.toNat) = (ok && signN b.toNat) := by
            rw [List.take_add_one, hb, List.all_append, hok, Bool.and_assoc]
            simp
          cases ok with
          | false =>
            simp only [go_sem, f1, decide_true, ib, w1]
            exact ⟨m - 1, by omega, k + 1, false, by omega, by rw [hstep]; rfl, rfl⟩
          | true =>
            have done : ∀ t : Bool, signN b.toNat = t → t = (fstOK l && (l.take (k + 1)).all fun b => signN b.toNat) := fun t ht => by rw [hstep, ht]; rfl
            by_cases hA : 97 ≤ b.toNat
            · have gA : ((97 : Int) ≤ ((b.toNat : Nat) : Int)) = True := eq_true (by omega)
              by_cases hB : b.toNat ≤ 122
              · have gB : (((b.toNat : Nat) : Int) ≤ 122) = True := eq_true (by omega)
                simp only [go_sem, f1, decide_true, ib, w1, gA, gB]
                exact ⟨m - 1, by omega, k + 1, true, by omega, done true (by simp [signN, letterN, hA, hB]), rfl⟩
              · have gB : (((b.toNat : Nat) : Int) ≤ 122) = False := eq_false (by omega)
                have g48 : ((48 : Int) ≤ ((b.toNat : Nat) : Int)) = True := eq_true (by omega)
                have g57 : (((b.toNat : Nat) : Int) ≤ 57) = False := eq_false (by omega)
                have g45 : (((b.toNat : Nat) : Int) == 45) = false := by simp only [beq_eq_false_iff_ne, ne_eq]; omega
                simp only [go_sem, f1, decide_true, decide_false, ib, w1, gA, gB, g48, g57, g45]
                exact ⟨m - 1, by omega, k + 1, false, by omega, done false (by simp [signN, letterN]; omega), rfl⟩
            · have gA : ((97 : Int) ≤ ((b.toNat : Nat) : Int)) = False := eq_false (by omega)
              by_cases h48 : 48 ≤ b.toNat
              · have g48 : ((48 : Int) ≤ ((b.toNat : Nat) : Int)) = True := eq_true (by omega)
                by_cases h57 : b.toNat ≤ 57
                · have g57 : (((b.toNat : Nat) : Int) ≤ 57) = True := eq_true (by omega)
                  simp only [go_sem, f1, decide_true, decide_false, ib, w1, gA, g48, g57]
                  exact ⟨m - 1, by omega, k + 1, true, by omega, done true (by simp [signN, h48, h57]), rfl⟩
                · have g57 : (((b.toNat : Nat) : Int) ≤ 57) = False := eq_false (by omega)
                  have g45 : (((b.toNat : Nat) : Int) == 45) = false := by simp only [beq_eq_false_iff_ne, ne_eq]; omega
                  simp only [go_sem, f1, decide_true, decide_false, ib, w1, gA, g48, g57, g45]
                  exact ⟨m - 1, by omega, k + 1, false, by omega, done false (by simp [signN, letterN]; omega), rfl⟩
              · have g48 : ((48 : Int) ≤ ((b.toNat : Nat) : Int)) = False := eq_false (by omega)
                by_cases h45 : b.toNat = 45
                · have g45 : (((b.toNat : Nat) : Int) == 45) = true := by rw [h45]; rfl
                  simp only [go_sem, f1, decide_true, decide_false, ib, w1, gA, g48, g45]
                  exact ⟨m - 1, by omega, k + 1, true, by omega, done true (by simp [signN, h45]), rfl⟩
                · have g45 : (((b.toNat : Nat) : Int) == 45) = false := by simp only [beq_eq_false_iff_ne, ne_eq]; omega
                  simp only [go_sem, f1, decide_true, decide_false, ib, w1, gA, g48, g45]
                  exact ⟨m - 1, by omega, k + 1, false, by omega, done false (by simp [signN, letterN]; omega), rfl⟩
        · have f1 : ((k : Int) < (s.size : Int)) = False := eq_false (by omega)
          rw [List.take_of_length_le (by omega), ← hf] at hok
          rw [← hok]
          cases ok
          · simp only [go_sem, f1, decide_false, nmCode, Bool.false_eq_true]
          · simp only [go_sem, f1, decide_false, nmCode]
  · have e1 : ((1 : Int) ≤ (s.size : Int)) = False := eq_false (by omega)
    have eF : fstOK l = false := by
      have : decide (1 ≤ l.length) = false := by simpa using h1
      simp only [fstOK, this, Bool.false_and]
    simp only [go_sem, e1, decide_true, decide_false]
    refine aw_loop (fun m E => ∃ (k : Nat) (ok : Bool), k + m = l.length ∧ ok = (fstOK l && (l.take k).all fun b => signN b.toNat) ∧ E = mkE [(0, .lit (.string s)), (3, .lit (.bool ok)), (4, .lit (.int .i64 (k : Nat)))] []) l.length ?_ ?_
    · exact ⟨0, _, by omega, rfl, by simp only [go_sem, eF, List.take_zero, List.all_nil, Bool.and_true]; rfl⟩
    · rintro m _ ⟨k, ok, hk, hok, rfl⟩
      by_cases hkl : k < l.length
      · have f1 : ((k : Int) < (s.size : Int)) = True := eq_true (by omega)
        obtain ⟨b, hb⟩ : ∃ b, l[k]? = some b := ⟨l[k], List.getElem?_eq_getElem hkl⟩
        have ib := avIxs_l s .i64 k b (by rw [hL]; exact hb)
        have w1 := wrap_succ k (by omega)
        have hstep : (fstOK l && (l.take (k + 1)).all fun b => signN b.toNat) = (ok && signN b.toNat) := by
          rw [List.take_add_one, hb, List.all_append, hok, Bool.and_assoc]
          simp
        cases ok with
        | false =>
          simp only [go_sem, f1, decide_true, ib, w1]
          exact ⟨m - 1, by omega, k + 1, false, by omega, by rw [hstep]; rfl, rfl⟩
        | true =>
          have done : ∀ t : Bool, signN b.toNat = t → t = (fstOK l && (l.take (k + 1)).all fun b => signN b.toNat) := fun t ht => by rw [hstep, ht]; rfl
          by_cases hA : 97 ≤ b.toNat
          · have gA : ((97 : Int) ≤ ((b.toNat : Nat) : Int)) = True := eq_true (by omega)
            by_cases hB : b.toNat ≤ 122
            · have gB : (((b.toNat : Nat) : Int) ≤ 122) = True := eq_true (by omega)
              simp only [go_sem, f1, decide_true, ib, w1, gA, gB]
              exact ⟨m - 1, by omega, k + 1, true, by omega, done true (by simp [signN, letterN, hA, hB]), rfl⟩
            · have gB : (((b.toNat : Nat) : Int) ≤ 122) = False := eq_false (by omega)
              have g48 : ((48 : Int) ≤ ((b.toNat : Nat) : Int)) = True := eq_true (by omega)
              have g57 : (((b.toNat : Nat) : Int) ≤ 57) = False := eq_false (by omega)
              have g45 : (((b.toNat : Nat) : Int) == 45) = false := by simp only [beq_eq_false_iff_ne, ne_eq]; omega
              simp only [go_sem, f1, decide_true, decide_false, ib, w1, gA, gB, g48, g57, g45]
              exact ⟨m - 1, by omega, k + 1, false, by omega, done false (by simp [signN, letterN]; omega), rfl⟩
          · have gA : ((97 : Int) ≤ ((b.toNat : Nat) : Int)) = False := eq_false (by omega)
            by_cases h48 : 48 ≤ b.toNat
            · have g48 : ((48 : Int) ≤ ((b.toNat : Nat) : Int)) = True := eq_true (by omega)
              by_cases h57 : b.toNat ≤ 57
              · have g57 : (((b.toNat : Nat) : Int) ≤ 57) = True := eq_true (by omega)
                simp only [go_sem, f1, decide_true, decide_false, ib, w1, gA, g48, g57]
                exact ⟨m - 1, by omega, k + 1, true, by omega, done true (by simp [signN, h48, h57]), rfl⟩
              · have g57 : (((b.toNat : Nat) : Int) ≤ 57) = False := eq_false (by omega)
                have g45 : (((b.toNat : Nat) : Int) == 45) = false := by simp only [beq_eq_false_iff_ne, ne_eq]; omega
                simp only [go_sem, f1, decide_true, decide_false, ib, w1, gA, g48, g57, g45]
                exact ⟨m - 1, by omega, k + 1, false, by omega, done false (by simp [signN, letterN]; omega), rfl⟩
            · have g48 : ((48 : Int) ≤ ((b.toNat : Nat) : Int)) = False := eq_false (by omega)
              by_cases h45 : b.toNat = 45
              · have g45 : (((b.toNat : Nat) : Int) == 45) = true := by rw [h45]; rfl
                simp only [go_sem, f1, decide_true, decide_false, ib, w1, gA, g48, g45]
                exact ⟨m - 1, by omega, k + 1, true, by omega, done true (by simp [signN, h45]), rfl⟩
              · have g45 : (((b.toNat : Nat) : Int) == 45) = false := by simp only [beq_eq_false_iff_ne, ne_eq]; omega
                simp only [go_sem, f1, decide_true, decide_false, ib, w1, gA, g48, g45]
                exact ⟨m - 1, by omega, k + 1, false, by omega, done false (by simp [signN, letterN]; omega), rfl⟩
      · have f1 : ((k : Int) < (s.size : Int)) = False := eq_false (by omega)
        rw [List.take_of_length_le (by omega), ← hf] at hok
        rw [← hok]
        cases ok
        · simp only [go_sem, f1, decide_false, nmCode, Bool.false_eq_true]
        · simp only [go_sem, f1, decide_false, nmCode]
def codeG : Nat → Int
  | 0 => 104
  | 1 => 110
  | 2 => 103
  | 3 => 113
  | 4 => 111
  | 5 => 112
  | 6 => 109
  | _ => -1
def codeN : Option Nat → Int
  | none => 0
  | some g => codeG g
theorem any_take_none {α : Type} {p : α → Bool} {l : List α} {i : Nat} (h : ∀ (j : Nat) (y : α), j < i → l[j]? = some y → p y = false) : (l.take i).any p = false := by
  rw [List.any_eq_false]
  intro x hx
  obtain ⟨j, hj, e⟩ := List.mem_iff_getElem.1 hx
  simp only [List.length_take] at hj
  rw [List.getElem_take] at e
  simp [h j x (by omega) (by rw [List.getElem?_eq_getElem (by omega), e])]
theorem any_take_some {α : Type} {p : α → Bool} {l : List α} {i k : Nat} {x : α} (hk : k < i) (hx : l[k]? = some x) (hp : p x = true) : (l.take i).any p = true := by
  rw [List.any_eq_true]
  refine ⟨x, ?_, hp⟩
  obtain ⟨h1, h2⟩ := List.getElem?_eq_some_iff.1 hx
  exact List.mem_iff_getElem.2 ⟨k, by simp; omega, by rw [List.getElem_take]; exact h2⟩
theorem C_rPlace (i n : Int) : AC Tryz.prog f_q125 [.lit (.int .i64 i), .lit (.int .i64 n)] (.lit (.bool (placeN i n))) := by
  refine ac_q125 ?_ (Nat.le_add_left 2 _)
  unfold placeN
  cases h : decide (0 ≤ i)
  · simp only [go_sem, c_q125, h, Bool.false_and]
  · simp only [go_sem, c_q125, h, Bool.true_and]
theorem C_rGroups : AC Tryz.prog f_q44 [] (avPfx 3758096384 4) := by
  refine ac_q44 ?_ (Nat.zero_le _)
  simp only [go_sem, c_q44, avPfx]
  rfl
theorem C_rSameKey (a b c d : Nat) : AC Tryz.prog f_q128 [.agg [avU a, avU b], .agg [avU c, avU d]] (.lit (.bool (a == c && b == d))) := by
  refine ac_q128 ?_ (Nat.le_add_left 2 _)
  cases h : a == c <;> simp only [go_sem, c_q128, avU, nat_beqb, h, Bool.true_and, Bool.false_and]
theorem C_rSamePrefix (a : Nat) (b : Int) (c : Nat) (d : Int) : AC Tryz.prog f_q127 [avPfx a b, avPfx c d] (.lit (.bool (a == c && b == d))) := by
  refine ac_q127 ?_ (Nat.le_add_left 2 _)
  cases h : a == c <;> simp only [go_sem, c_q127, avPfx, avU, nat_beqb, h, Bool.true_and, Bool.false_and]
theorem b109 : ((109 : Int) != 0) = true := rfl
theorem b000 : ((0 : Int) != 0) = false := rfl
theorem R_router (w : NW) (h : w.OK) (i : Nat) (x : NRt) (hx : w.rts[i]? = some x) : AC Tryz.prog f_q82 [.agg (netV w), .lit (.int .i64 (i : Nat))] (.lit (.int .i64 (codeN (rtOf w.rts i x)))) := by
  have hi : i < w.rts.length := (List.getElem?_eq_some_iff.1 hx).1
  have hl := h.l1
  refine ac_q82 ?_ (Nat.le_add_left 2 _)
  simp only [go_sem, c_q82, netV, Int.toNat_natCast, Int.natCast_nonneg, List.getElem?_map, hx, rowAgg, avRouter, avStr]
  refine callX_of (C_r5Name x.nm (h.rtn x (List.mem_of_getElem? hx))) ?_
  cases h1 : nameOK x.nm.data.toList
  · simp only [go_sem, nmCode, h1, rtOf, codeN, codeG, b109, Bool.false_eq_true]
  simp only [go_sem, nmCode, h1, b000]
  refine aw_loop (fun m E => ∃ k : Nat, k + m = i ∧ (∀ (j : Nat) (y : NRt), j < k → w.rts[j]? = some y → p_router_1 x y = false) ∧ E = mkE [(1, .lit (.int .i64 (i : Nat))), (2, .lp 2 0), (5, .lp 5 0), (6, .lit (.int .i64 (k : Nat)))] [(2, netV w), (5, [avStr x.nm, .lit (.int .i64 x.rank)])]) i ?_ ?_
  · exact ⟨0, by omega, fun j y hj => absurd hj (Nat.not_lt_zero j), by simp only [go_sem, Int.natCast_zero]; rfl⟩
  · rintro m _ ⟨k, hk, hall, rfl⟩
    by_cases hki : k < i
    · have f1 : ((k : Int) < (i : Int)) = True := eq_true (by omega)
      obtain ⟨y, hy⟩ : ∃ y, w.rts[k]? = some y := ⟨w.rts[k], List.getElem?_eq_getElem (by omega)⟩
      have hw := wrap_succ k (by omega)
      cases hp : p_router_1 x y
      · have hp2 : (y.nm.toList == x.nm.toList) = false := hp
        simp only [go_sem, f1, decide_true, netV, Int.toNat_natCast, Int.natCast_nonneg, List.getElem?_map, hy, rowAgg, avRouter, avStr, hp2, hw]
        refine ⟨m - 1, by omega, k + 1, by omega, fun j z hj hz => ?_, rfl⟩
        by_cases hjk : j = k
        · subst hjk; rw [hy] at hz; injection hz with hz; rw [← hz]; exact hp
        · exact hall j z (by omega) hz
      · have hp2 : (y.nm.toList == x.nm.toList) = true := hp
        simp only [go_sem, f1, decide_true, netV, Int.toNat_natCast, Int.natCast_nonneg, List.getElem?_map, hy, rowAgg, avRouter, avStr, hp2, rtOf, h1, any_take_some hki hy hp, codeN, codeG, Bool.true_eq_false]
    · obtain rfl : k = i := by omega
      have f1 : ((k : Int) < (k : Int)) = False := eq_false (by omega)
      have hany := any_take_none hall
      by_cases g1 : x.rank < 0
      · have e : costN x.rank = false := by simp only [costN]; simp; omega
        simp only [go_sem, f1, decide_false, avStr, g1, decide_true, rtOf, h1, hany, e, codeN, codeG, Bool.true_eq_false, Bool.false_eq_true]
      · by_cases g2 : 65535 < x.rank
        · have e : costN x.rank = false := by simp only [costN]; simp; omega
          simp only [go_sem, f1, decide_false, avStr, g1, g2, decide_true, rtOf, h1, hany, e, codeN, codeG, Bool.true_eq_false, Bool.false_eq_true]
        · have e : costN x.rank = true := by simp only [costN]; simp; omega
          simp only [go_sem, f1, decide_false, avStr, g1, g2, rtOf, h1, hany, e, codeN, codeG, Bool.true_eq_false, Bool.false_eq_true]
end Go.Proofs.YtelbgkknneljeaaGreatDoor.VL
end

section
set_option maxHeartbeats 4000000
namespace Go.Proofs.YtelbgkknneljeaaGreatDoor.VL
open Go.RowKit Go.Proofs
theorem R_link (w : NW) (h : w.OK) (i : Nat) (x : NLk) (hx : w.lks[i]? = some x) : AC Tryz.prog f_q83 [.agg (netV w), .lit (.int .i64 (i : Nat))] (.lit (.int .i64 (codeN (lkOf w.lks i x)))) := by
  have hi : i < w.lks.length := (List.getElem?_eq_some_iff.1 hx).1
  have hl := h.l2
  have ha := h.lka x (List.mem_of_getElem? hx)
  refine ac_q83 ?_ (Nat.le_add_left 2 _)
  simp only [go_sem, c_q83, netV, Int.toNat_natCast, Int.natCast_nonneg, List.getElem?_map, hx, rowAgg, avLink, avStr, avU]
  refine callX_of (C_r5Name x.nm (h.lkn x (List.mem_of_getElem? hx))) ?_
  cases h1 : nameOK x.nm.data.toList
  · simp only [go_sem, nmCode, h1, lkOf, codeN, codeG, b109, Bool.false_eq_true]
  simp only [go_sem, nmCode, h1, b000]
  refine aw_loop (fun m E => ∃ k : Nat, k + m = i ∧ (∀ (j : Nat) (y : NLk), j < k → w.lks[j]? = some y → p_link_1 x y = false) ∧ E = mkE [(1, .lit (.int .i64 (i : Nat))), (2, .lp 2 0), (5, .lp 5 0), (6, .lit (.int .i64 (k : Nat)))] [(2, netV w), (5, [avStr x.nm, avU x.a, .lit (.int .i64 x.b)])]) i ?_ ?_
  · exact ⟨0, by omega, fun j y hj => absurd hj (Nat.not_lt_zero j), by simp only [go_sem, Int.natCast_zero]; rfl⟩
  · rintro m _ ⟨k, hk, hall, rfl⟩
    by_cases hki : k < i
    · have f1 : ((k : Int) < (i : Int)) = True := eq_true (by omega)
      obtain ⟨y, hy⟩ : ∃ y, w.lks[k]? = some y := ⟨w.lks[k], List.getElem?_eq_getElem (by omega)⟩
      have hw := wrap_succ k (by omega)
      cases hp : p_link_1 x y
      · have hp2 : (y.nm.toList == x.nm.toList) = false := hp
        simp only [go_sem, f1, decide_true, netV, Int.toNat_natCast, Int.natCast_nonneg, List.getElem?_map, hy, rowAgg, avLink, avStr, avU, hp2, hw]
        refine ⟨m - 1, by omega, k + 1, by omega, fun j z hj hz => ?_, rfl⟩
        by_cases hjk : j = k
        · subst hjk; rw [hy] at hz; injection hz with hz; rw [← hz]; exact hp
        · exact hall j z (by omega) hz
      · have hp2 : (y.nm.toList == x.nm.toList) = true := hp
        simp only [go_sem, f1, decide_true, netV, Int.toNat_natCast, Int.natCast_nonneg, List.getElem?_map, hy, rowAgg, avLink, avStr, avU, hp2, lkOf, h1, any_take_some hki hy hp, codeN, codeG, Bool.true_eq_false]
    · obtain rfl : k = i := by omega
      have f1 : ((k : Int) < (k : Int)) = False := eq_false (by omega)
      have hany := any_take_none hall
      have hV := C_rValid x.a x.b ha
      have hW1 := C_rWithin x.a x.b 3758096384 4 ha (by decide)
      have hW2 := C_rWithin 3758096384 4 x.a x.b (by decide) ha
      have hG := C_rGroups
      simp only [avPfx, avU] at hV hW1 hW2 hG
      simp only [go_sem, f1, decide_false, avStr, avU]
      refine callX_of hV ?_
      cases h3 : validN x.a x.b
      · simp only [go_sem, lkOf, h1, hany, h3, codeN, codeG, Bool.not_false, Bool.true_eq_false, Bool.false_eq_true]
      simp only [go_sem, Bool.not_true]
      refine callX_of hG ?_
      simp only [go_sem]
      refine callX_of hW1 ?_
      cases h4 : withinN x.a x.b 3758096384 4
      case true => simp only [go_sem, lkOf, h1, hany, h3, h4, codeN, codeG, Bool.true_or, Bool.true_eq_false, Bool.false_eq_true]
      simp only [go_sem]
      refine callX_of hG ?_
      simp only [go_sem]
      refine callX_of hW2 ?_
      cases h5 : withinN 3758096384 4 x.a x.b <;> simp only [go_sem, lkOf, h1, hany, h3, h4, h5, codeN, codeG, Bool.or_true, Bool.or_false, Bool.true_eq_false, Bool.false_eq_true]
theorem at_link {w : NW} {lk : Int} (h : placeN lk w.lks.length = true) : ∃ (q : Nat) (y : NLk), lk = (q : Int) ∧ w.lks[q]? = some y := by
  simp only [placeN, Bool.and_eq_true, decide_eq_true_eq] at h
  exact ⟨lk.toNat, w.lks[lk.toNat]'(by omega), by omega, List.getElem?_eq_getElem (by omega)⟩
theorem onAt_net {w : NW} {lk : Int} {q : Nat} {y : NLk} (a : Nat) (e : lk = (q : Int)) (hy : w.lks[q]? = some y) : onAt w.net lk a = onN y a := by
  simp only [onAt, NW.net, Option.getD_some, e, Int.toNat_natCast, hy]
theorem nb0 (a : Nat) : ((a : Int) == 0) = (a == 0) := by
  rw [Bool.eq_iff_iff]; simp
theorem rt_len (w : NW) : (w.net.rts.getD []).length = w.rts.length := rfl
theorem lk_len (w : NW) : (w.net.lks.getD []).length = w.lks.length := rfl
theorem pt_net (w : NW) : w.net.pts.getD [] = w.pts := rfl
theorem R_port (w : NW) (h : w.OK) (i : Nat) (x : NPt) (hx : w.pts[i]? = some x) : AC Tryz.prog f_q84 [.agg (netV w), .lit (.int .i64 (i : Nat))] (.lit (.int .i64 (codeN (ptOf w.net w.pts i x)))) := by
  have hi : i < w.pts.length := (List.getElem?_eq_some_iff.1 hx).1
  have hl := h.l3
  have ha := h.pta x (List.mem_of_getElem? hx)
  refine ac_q84 ?_ (Nat.le_add_left 2 _)
  simp only [go_sem, c_q84, netV, Int.toNat_natCast, Int.natCast_nonneg, List.getElem?_map, hx, rowAgg, avPort, avU, List.length_map]
  refine callX_of (C_rPlace x.rt w.rts.length) ?_
  cases h1 : placeN x.rt w.rts.length
  · simp only [go_sem, h1, ptOf, rt_len, lk_len, codeN, codeG, Bool.not_false, Bool.false_and]
  simp only [go_sem, h1, Bool.not_true, List.length_map]
  refine callX_of (C_rPlace x.lk w.lks.length) ?_
  cases h2 : placeN x.lk w.lks.length
  · simp only [go_sem, h1, h2, ptOf, rt_len, lk_len, codeN, codeG, Bool.not_false, Bool.and_false]
  obtain ⟨q, y0, hq, hy0⟩ := at_link h2
  have hat := onAt_net x.a hq hy0
  have hI := C_rIn y0.a y0.b x.a (h.lka y0 (List.mem_of_getElem? hy0)) ha
  simp only [avPfx, avU] at hI
  cases h3 : x.a == 0
  case true =>
    have e : onN y0 x.a = false := by simp only [onN, h3, Bool.not_true, Bool.false_and]
    simp only [go_sem, h1, h2, Bool.not_true, nb0, h3, ptOf, rt_len, lk_len, hat, e, codeN, codeG, Bool.and_self, Bool.true_eq_false]
  simp only [go_sem, Bool.not_true, nb0, h3, hq, hy0, Int.toNat_natCast, Int.natCast_nonneg, List.getElem?_map, rowAgg, avLink, avStr, avU]
  refine callX_of hI ?_
  cases h4 : inN y0.a y0.b x.a
  · have e : onN y0 x.a = false := by simp only [onN, h4, Bool.and_false]
    simp only [go_sem, h1, h2, Bool.not_false, ptOf, rt_len, lk_len, ← hq, hat, e, codeN, codeG, Bool.and_self, Bool.true_eq_false]
  have e : onN y0 x.a = true := by simp only [onN, h3, h4, Bool.not_false, Bool.and_self]
  simp only [go_sem, Bool.not_true]
  refine aw_loop (fun m E => ∃ k : Nat, k + m = i ∧ (∀ (j : Nat) (y : NPt), j < k → w.pts[j]? = some y → p_port_1 x y = false) ∧ E = mkE [(1, .lit (.int .i64 (i : Nat))), (2, .lp 2 0), (5, .lp 5 0), (6, .lit (.int .i64 (k : Nat)))] [(2, netV w), (5, [.lit (.int .i64 x.rt), .lit (.int .i64 x.lk), avU x.a])]) i ?_ ?_
  · exact ⟨0, by omega, fun j y hj => absurd hj (Nat.not_lt_zero j), by simp only [go_sem, Int.natCast_zero, hq]; rfl⟩
  · rintro m _ ⟨k, hk, hall, rfl⟩
    by_cases hki : k < i
    · have f1 : ((k : Int) < (i : Int)) = True := eq_true (by omega)
      obtain ⟨y, hy⟩ : ∃ y, w.pts[k]? = some y := ⟨w.pts[k], List.getElem?_eq_getElem (by omega)⟩
      have hw := wrap_succ k (by omega)
      have go : p_port_1 x y = false → ∀ (j : Nat) (z : NPt), j < k + 1 → w.pts[j]? = some z → p_port_1 x z = false := fun hp j z hj hz => by
        by_cases hjk : j = k
        · subst hjk; rw [hy] at hz; injection hz with hz; rw [← hz]; exact hp
        · exact hall j z (by omega) hz
      cases e0 : (y.a == x.a) <;> cases e1 : (y.rt == x.rt) <;> cases e2 : (y.lk == x.lk) <;> simp only [go_sem, f1, decide_true, netV, Int.toNat_natCast, Int.natCast_nonneg, List.getElem?_map, hy, rowAgg, avPort, avU, nat_beqb, e0, e1, e2, hw]
      all_goals first
        | exact ⟨m - 1, by omega, k + 1, by omega, go (by simp only [p_port_1, e0, e1, e2]; rfl), rfl⟩
        | (have hp : p_port_1 x y = true := by simp only [p_port_1, e0, e1, e2]; rfl
           simp only [ptOf, rt_len, lk_len, h1, h2, ← hq, hat, e, any_take_some hki hy hp, codeN, codeG, Bool.and_self, Bool.true_eq_false, if_false, if_true])
    · obtain rfl : k = i := by omega
      have f1 : ((k : Int) < (k : Int)) = False := eq_false (by omega)
      have hany := any_take_none hall
      simp only [go_sem, f1, decide_false, ptOf, rt_len, lk_len, h1, h2, ← hq, hat, e, hany, codeN, codeG, Bool.and_self, Bool.true_eq_false, Bool.false_eq_true]
theorem R_route (w : NW) (h : w.OK) (i : Nat) (x : NRo) (hx : w.ros[i]? = some x) : AC Tryz.prog f_q85 [.agg (netV w), .lit (.int .i64 (i : Nat))] (.lit (.int .i64 (codeN (roOf w.net x)))) := by
  have hi : i < w.ros.length := (List.getElem?_eq_some_iff.1 hx).1
  have hl := h.l4
  have ha := h.roa x (List.mem_of_getElem? hx)
  have hv := h.rov x (List.mem_of_getElem? hx)
  refine ac_q85 ?_ (Nat.le_add_left 2 _)
  simp only [go_sem, c_q85, netV, Int.toNat_natCast, Int.natCast_nonneg, List.getElem?_map, hx, rowAgg, avRoute, avU, List.length_map]
  refine callX_of (C_rPlace x.rt w.rts.length) ?_
  cases h1 : placeN x.rt w.rts.length
  · simp only [go_sem, h1, roOf, rt_len, codeN, codeG, Bool.not_false]
  have hV := C_rValid x.a x.b ha
  simp only [avPfx, avU] at hV
  simp only [go_sem, h1, Bool.not_true]
  refine callX_of hV ?_
  cases h3 : validN x.a x.b
  · simp only [go_sem, roOf, rt_len, h1, h3, codeN, codeG, Bool.not_false, Bool.false_and, Bool.true_eq_false, Bool.false_eq_true]
  have hG := C_rGroup x.via hv
  simp only [avU] at hG
  have kind : hostN x.via = false → roOf w.net x = some 3 ∨ costN x.cost = false := fun hh => by
    cases hc : costN x.cost
    · exact .inr rfl
    · left; simp only [roOf, rt_len, h1, h3, hc, hh, Bool.and_self, Bool.true_eq_false, if_false, if_true]
  by_cases g1 : x.cost < 0
  · have e : costN x.cost = false := by simp only [costN]; simp; omega
    simp only [go_sem, Bool.not_true, g1, decide_true, roOf, rt_len, h1, h3, e, codeN, codeG, Bool.and_false, Bool.true_eq_false]
  by_cases g2 : 65535 < x.cost
  · have e : costN x.cost = false := by simp only [costN]; simp; omega
    simp only [go_sem, Bool.not_true, g1, g2, decide_true, decide_false, roOf, rt_len, h1, h3, e, codeN, codeG, Bool.and_false, Bool.true_eq_false]
  have e : costN x.cost = true := by simp only [costN]; simp; omega
  simp only [go_sem, Bool.not_true, g1, g2, decide_false]
  refine callX_of hG ?_
  cases h4 : groupN x.via
  · cases h5 : x.via == 0
    · have eh : hostN x.via = true := by simp only [hostN, h4, h5, Bool.not_false, Bool.and_self]
      simp only [go_sem, nb0, h5, roOf, rt_len, h1, h3, e, eh, codeN, codeG, Bool.and_self, Bool.true_eq_false]
    · have eh : hostN x.via = false := by simp only [hostN, h5, Bool.not_true, Bool.false_and]
      simp only [go_sem, nb0, h5, roOf, rt_len, h1, h3, e, eh, codeN, codeG, Bool.and_self, Bool.true_eq_false]
  · have eh : hostN x.via = false := by simp only [hostN, h4, Bool.not_true, Bool.and_false]
    simp only [go_sem, roOf, rt_len, h1, h3, e, eh, codeN, codeG, Bool.and_self, Bool.true_eq_false]
theorem R_groups (w : NW) (h : w.OK) (i : Nat) (x : NRg) (hx : w.rgs[i]? = some x) : AC Tryz.prog f_q86 [.agg (netV w), .lit (.int .i64 (i : Nat))] (.lit (.int .i64 (codeN (rgOf w.rgs i x)))) := by
  have hi : i < w.rgs.length := (List.getElem?_eq_some_iff.1 hx).1
  have hl := h.l5
  have ha := h.rga x (List.mem_of_getElem? hx)
  have hv := h.rgr x (List.mem_of_getElem? hx)
  have hV := C_rValid x.a x.b ha
  have hW1 := C_rWithin x.a x.b 3758096384 4 ha (by decide)
  have hG := C_rGroups
  have hR := C_rGroup x.root hv
  simp only [avPfx, avU] at hV hW1 hG hR
  refine ac_q86 ?_ (Nat.le_add_left 2 _)
  simp only [go_sem, c_q86, netV, Int.toNat_natCast, Int.natCast_nonneg, List.getElem?_map, hx, rowAgg, avRange, avU, List.length_map]
  refine callX_of hV ?_
  cases h1 : validN x.a x.b
  · simp only [go_sem, h1, rgOf, codeN, codeG, Bool.not_false]
  simp only [go_sem, Bool.not_true]
  refine callX_of hG ?_
  simp only [go_sem]
  refine callX_of hW1 ?_
  cases h2 : withinN x.a x.b 3758096384 4
  · simp only [go_sem, h1, h2, rgOf, codeN, codeG, Bool.not_false, Bool.false_and, Bool.true_eq_false]
  simp only [go_sem, Bool.not_true]
  refine callX_of hR ?_
  cases h4 : groupN x.root
  case true =>
    have eh : hostN x.root = false := by simp only [hostN, h4, Bool.not_true, Bool.and_false]
    simp only [go_sem, h1, h2, eh, rgOf, codeN, codeG, Bool.and_false, Bool.true_eq_false]
  cases h5 : x.root == 0
  case true =>
    have eh : hostN x.root = false := by simp only [hostN, h5, Bool.not_true, Bool.false_and]
    simp only [go_sem, nb0, h5, h1, h2, eh, rgOf, codeN, codeG, Bool.and_false, Bool.true_eq_false]
  have eh : hostN x.root = true := by simp only [hostN, h4, h5, Bool.not_false, Bool.and_self]
  simp only [go_sem, nb0, h5]
  refine aw_loop (fun m E => ∃ k : Nat, k + m = i ∧ (∀ (j : Nat) (y : NRg), j < k → w.rgs[j]? = some y → p_ranges_1 x y = false) ∧ E = mkE [(1, .lit (.int .i64 (i : Nat))), (2, .lp 2 0), (5, .lp 5 0), (6, .lit (.int .i64 (k : Nat)))] [(2, netV w), (5, [avU x.a, .lit (.int .i64 x.b), avU x.root])]) i ?_ ?_
  · exact ⟨0, by omega, fun j y hj => absurd hj (Nat.not_lt_zero j), by simp only [go_sem, Int.natCast_zero]; rfl⟩
  · rintro m _ ⟨k, hk, hall, rfl⟩
    by_cases hki : k < i
    · have f1 : ((k : Int) < (i : Int)) = True := eq_true (by omega)
      obtain ⟨y, hy⟩ : ∃ y, w.rgs[k]? = some y := ⟨w.rgs[k], List.getElem?_eq_getElem (by omega)⟩
      have hw := wrap_succ k (by omega)
      have hS := C_rSamePrefix y.a y.b x.a x.b
      simp only [avPfx, avU] at hS
      simp only [go_sem, f1, decide_true, netV, Int.toNat_natCast, Int.natCast_nonneg, List.getElem?_map, hy, rowAgg, avRange, avU]
      refine callX_of hS ?_
      cases hp : p_ranges_1 x y
      · have hp2 : (y.a == x.a && y.b == x.b) = false := hp
        simp only [go_sem, hp2, hw]
        refine ⟨m - 1, by omega, k + 1, by omega, fun j z hj hz => ?_, rfl⟩
        by_cases hjk : j = k
        · subst hjk; rw [hy] at hz; injection hz with hz; rw [← hz]; exact hp
        · exact hall j z (by omega) hz
      · have hp2 : (y.a == x.a && y.b == x.b) = true := hp
        simp only [go_sem, hp2, rgOf, h1, h2, eh, any_take_some hki hy hp, codeN, codeG, Bool.and_self, Bool.true_eq_false]
    · obtain rfl : k = i := by omega
      have f1 : ((k : Int) < (k : Int)) = False := eq_false (by omega)
      have hany := any_take_none hall
      simp only [go_sem, f1, decide_false, rgOf, h1, h2, eh, hany, codeN, codeG, Bool.and_self, Bool.true_eq_false, Bool.false_eq_true]
theorem R_source (w : NW) (h : w.OK) (i : Nat) (x : NSc) (hx : w.scs[i]? = some x) : AC Tryz.prog f_q87 [.agg (netV w), .lit (.int .i64 (i : Nat))] (.lit (.int .i64 (codeN (scOf w.net w.scs i x)))) := by
  have hi : i < w.scs.length := (List.getElem?_eq_some_iff.1 hx).1
  have hl := h.l6
  have hl3 := h.l3
  have ha := h.scs x (List.mem_of_getElem? hx)
  have hg := h.scg x (List.mem_of_getElem? hx)
  refine ac_q87 ?_ (Nat.le_add_left 2 _)
  simp only [go_sem, c_q87, netV, Int.toNat_natCast, Int.natCast_nonneg, List.getElem?_map, hx, rowAgg, avSource, avU, List.length_map]
  refine callX_of (C_rPlace x.lk w.lks.length) ?_
  cases h2 : placeN x.lk w.lks.length
  · simp only [go_sem, h2, scOf, lk_len, codeN, codeG, Bool.not_false]
  obtain ⟨q, y0, hq, hy0⟩ := at_link h2
  have hat := onAt_net x.s hq hy0
  have hI := C_rIn y0.a y0.b x.s (h.lka y0 (List.mem_of_getElem? hy0)) ha
  have hG := C_rGroup x.g hg
  simp only [avPfx, avU] at hI hG
  cases h3 : x.s == 0
  case true =>
    have e : onN y0 x.s = false := by simp only [onN, h3, Bool.not_true, Bool.false_and]
    simp only [go_sem, h2, Bool.not_true, nb0, h3, scOf, lk_len, hat, e, codeN, codeG, Bool.true_eq_false]
  simp only [go_sem, Bool.not_true, nb0, h3, hq, hy0, Int.toNat_natCast, Int.natCast_nonneg, List.getElem?_map, rowAgg, avLink, avStr, avU]
  refine callX_of hI ?_
  cases h4 : inN y0.a y0.b x.s
  · have e : onN y0 x.s = false := by simp only [onN, h4, Bool.and_false]
    simp only [go_sem, h2, Bool.not_false, scOf, lk_len, ← hq, hat, e, codeN, codeG, Bool.true_eq_false]
  have e : onN y0 x.s = true := by simp only [onN, h3, h4, Bool.not_false, Bool.and_self]
  simp only [go_sem, Bool.not_true]
  refine callX_of hG ?_
  cases h5 : groupN x.g
  · simp only [go_sem, h2, Bool.not_false, scOf, lk_len, ← hq, hat, e, h5, codeN, codeG, Bool.true_eq_false]
  simp only [go_sem, Bool.not_true]
  refine aw_loop (fun m E => ∃ k : Nat, k + m = i ∧ (∀ (j : Nat) (y : NSc), j < k → w.scs[j]? = some y → p_source_1 x y = false) ∧ E = mkE [(1, .lit (.int .i64 (i : Nat))), (2, .lp 2 0), (5, .lp 5 0), (6, .lit (.int .i64 (k : Nat)))] [(2, netV w), (5, [.lit (.int .i64 x.lk), avU x.s, avU x.g])]) i ?_ ?_
  · exact ⟨0, by omega, fun j y hj => absurd hj (Nat.not_lt_zero j), by simp only [go_sem, Int.natCast_zero, ← hq]; rfl⟩
  · rintro m _ ⟨k, hk, hall, rfl⟩
    by_cases hki : k < i
    · have f1 : ((k : Int) < (i : Int)) = True := eq_true (by omega)
      obtain ⟨y, hy⟩ : ∃ y, w.scs[k]? = some y := ⟨w.scs[k], List.getElem?_eq_getElem (by omega)⟩
      have hw := wrap_succ k (by omega)
      have hS := C_rSameKey y.s y.g x.s x.g
      simp only [avU] at hS
      have go : p_source_1 x y = false → ∀ (j : Nat) (z : NSc), j < k + 1 → w.scs[j]? = some z → p_source_1 x z = false := fun hp j z hj hz => by
        by_cases hjk : j = k
        · subst hjk; rw [hy] at hz; injection hz with hz; rw [← hz]; exact hp
        · exact hall j z (by omega) hz
      simp only [go_sem, f1, decide_true, netV, Int.toNat_natCast, Int.natCast_nonneg, List.getElem?_map, hy, rowAgg, avSource, avU]
      refine callX_of hS ?_
      cases e0 : (y.s == x.s) <;> cases e1 : (y.g == x.g) <;> cases e2 : (y.lk == x.lk) <;> simp only [go_sem, nat_beqb, e0, e1, e2, hw, bne, Bool.true_and, Bool.false_and, Bool.not_true, Bool.not_false]
      all_goals first
        | exact ⟨m - 1, by omega, k + 1, by omega, go (by simp only [p_source_1, e0, e1, e2, bne]; rfl), rfl⟩
        | (have hp : p_source_1 x y = true := by simp only [p_source_1, e0, e1, e2, bne]; rfl
           simp only [scOf, lk_len, h2, ← hq, hat, e, h5, any_take_some hki hy hp, codeN, codeG, Bool.true_or, Bool.true_eq_false, if_false, if_true])
    · obtain rfl : k = i := by omega
      have f1 : ((k : Int) < (k : Int)) = False := eq_false (by omega)
      have hany := any_take_none hall
      simp only [go_sem, f1, decide_false]
      refine aw_loop (fun m E => ∃ j : Nat, j + m = w.pts.length ∧ (∀ (r : Nat) (y : NPt), r < j → w.pts[r]? = some y → p_source_2 x y = false) ∧ E = mkE [(2, .lp 2 0), (5, .lp 5 0), (8, .lit (.int .i64 (j : Nat)))] [(2, netV w), (5, [.lit (.int .i64 x.lk), avU x.s, avU x.g])]) w.pts.length ?_ ?_
      · exact ⟨0, by omega, fun j y hj => absurd hj (Nat.not_lt_zero j), by simp only [go_sem, Int.natCast_zero]⟩
      · rintro m _ ⟨j, hj, hall2, rfl⟩
        by_cases hjl : j < w.pts.length
        · have f2 : ((j : Int) < (w.pts.length : Int)) = True := eq_true (by omega)
          obtain ⟨y, hy⟩ : ∃ y, w.pts[j]? = some y := ⟨w.pts[j], List.getElem?_eq_getElem hjl⟩
          have hw := wrap_succ j (by omega)
          cases hp : p_source_2 x y
          · have hp2 : (y.a == x.s) = false := hp
            simp only [go_sem, f2, decide_true, netV, Int.toNat_natCast, Int.natCast_nonneg, List.getElem?_map, List.length_map, hy, rowAgg, avPort, avU, nat_beqb, hp2, hw]
            refine ⟨m - 1, by omega, j + 1, by omega, fun r z hr hz => ?_, rfl⟩
            by_cases hrj : r = j
            · subst hrj; rw [hy] at hz; injection hz with hz; rw [← hz]; exact hp
            · exact hall2 r z (by omega) hz
          · have hp2 : (y.a == x.s) = true := hp
            have hany2 : w.pts.any (p_source_2 x) = true := List.any_eq_true.2 ⟨y, List.mem_of_getElem? hy, hp⟩
            simp only [go_sem, f2, decide_true, netV, Int.toNat_natCast, Int.natCast_nonneg, List.getElem?_map, List.length_map, hy, rowAgg, avPort, avU, nat_beqb, hp2, scOf, lk_len, pt_net, h2, hat, e, h5, hany2, codeN, codeG, Bool.or_true, Bool.true_eq_false]
        · have f2 : ((j : Int) < (w.pts.length : Int)) = False := eq_false (by omega)
          have hany2 : w.pts.any (p_source_2 x) = false := by
            have := any_take_none (p := p_source_2 x) (l := w.pts) (i := j) hall2
            rwa [List.take_of_length_le (by omega)] at this
          simp only [go_sem, f2, decide_false, netV, List.length_map, scOf, lk_len, pt_net, h2, hat, e, h5, hany, hany2, codeN, codeG, Bool.or_self, Bool.true_eq_false, Bool.false_eq_true]
end Go.Proofs.YtelbgkknneljeaaGreatDoor.VL
end

section
set_option maxHeartbeats 4000000
namespace Go.Proofs.YtelbgkknneljeaaGreatDoor.VL
open Go.RowKit Go.Proofs
theorem C_HasU (t : Tok) (e : Nat) (l : List Nat) (a : Nat) (hf : frB t = false) (he : e = 1 ∨ l = []) (hl : l.length < 9223372036854775808) : AC Tryz.prog f_q129 [.sl t e (l.map avU), avU a] (.lit (.bool (l.any fun y => y == a))) := by
  refine ac_q129 ?_ (Nat.le_add_left 2 _)
  simp only [go_sem, c_q129, avU]
  refine aw_loop (fun m E => ∃ k, k + m = l.length ∧ (∀ (j : Nat) (y : Nat), j < k → l[j]? = some y → (y == a) = false) ∧ E = mkE [(0, .sl t e (l.map avU)), (1, avU a), (5, .lit (.int .i64 (k : Nat)))] []) l.length ?_ ?_
  · exact ⟨0, by omega, fun j y hj => absurd hj (Nat.not_lt_zero j), by simp only [go_sem, Int.ofNat_zero, avU]⟩
  · rintro m _ ⟨k, hk, hall, rfl⟩
    by_cases hkl : k < l.length
    · have f1 : ((k : Int) < (l.length : Int)) = True := eq_true (by omega)
      obtain rfl : e = 1 := he.resolve_right (fun h => by rw [h] at hkl; simp at hkl)
      obtain ⟨x, hx⟩ : ∃ x, l[k]? = some x := ⟨l[k], List.getElem?_eq_getElem hkl⟩
      have hw := wrap_succ k (by omega)
      have hr := fun x => avRow_some 1 t (AV.lit x) hf
      cases hp : x == a
      · simp only [go_sem, f1, decide_true, hx, Int.toNat_natCast, Int.natCast_nonneg, List.length_map, List.getElem?_map, Option.map_some, hr, avU, nat_beqb, hp, hw]
        refine ⟨m - 1, by omega, k + 1, by omega, fun j y hj hy => ?_, rfl⟩
        by_cases hjk : j = k
        · subst hjk; rw [hx] at hy; injection hy with hy; rw [← hy]; exact hp
        · exact hall j y (by omega) hy
      · have e : (l.any fun y => y == a) = true := List.any_eq_true.2 ⟨x, List.mem_of_getElem? hx, hp⟩
        simp only [go_sem, f1, decide_true, hx, Int.toNat_natCast, Int.natCast_nonneg, List.length_map, List.getElem?_map, Option.map_some, hr, avU, nat_beqb, hp, e]
    · have f1 : ((k : Int) < (l.length : Int)) = False := eq_false (by omega)
      have e : (l.any fun y => y == a) = false := by
        have := any_take_none (p := fun y => y == a) (l := l) (i := k) hall
        rwa [List.take_of_length_le (by omega)] at this
      simp only [go_sem, f1, decide_false, List.length_map, e]
theorem nodup_of {l : List Nat} (h : ∀ (j y : Nat), l[j]? = some y → ((l.take j).any fun z => z == y) = false) : l.Nodup := by
  rw [List.nodup_iff_pairwise_ne, List.pairwise_iff_getElem]
  intro i j hi hj hij e
  have := h j l[j] (List.getElem?_eq_getElem hj)
  rw [List.any_eq_false] at this
  have hm : l[i] ∈ l.take j := List.mem_iff_getElem.2 ⟨i, by simp; omega, by rw [List.getElem_take]⟩
  exact this _ hm (by simp [e])
theorem not_nodup_of {l : List Nat} {j y : Nat} (hy : l[j]? = some y) (h : ((l.take j).any fun z => z == y) = true) : ¬ l.Nodup := by
  intro hn
  obtain ⟨z, hz, e⟩ := List.any_eq_true.1 h
  obtain ⟨i, hi, e2⟩ := List.mem_iff_getElem.1 hz
  simp only [List.length_take] at hi
  rw [List.getElem_take] at e2
  obtain ⟨h1, h2⟩ := List.getElem?_eq_some_iff.1 hy
  rw [List.nodup_iff_pairwise_ne, List.pairwise_iff_getElem] at hn
  exact hn i j (by omega) h1 (by omega) (by rw [e2, h2]; simpa using e)
theorem R_member (w : NW) (h : w.OK) (i : Nat) (x : NM) (hx : w.mbs[i]? = some x) : AC Tryz.prog f_q88 [.agg (netV w), .lit (.int .i64 (i : Nat))] (.lit (.int .i64 (codeN (mbOf w x)))) := by
  have hi : i < w.mbs.length := (List.getElem?_eq_some_iff.1 hx).1
  have hm : x ∈ w.mbs := List.mem_of_getElem? hx
  have hG := C_rGroup x.g (h.mbg x hm)
  have hsl := h.mbl x hm
  simp only [avU] at hG
  refine ac_q88 ?_ (Nat.le_add_left 2 _)
  simp only [go_sem, c_q88, netV, Int.toNat_natCast, Int.natCast_nonneg, List.getElem?_map, hx, rowAgg, avMb, avU, List.length_map]
  refine callX_of (C_rPlace x.lk w.lks.length) ?_
  cases h2 : placeN x.lk w.lks.length
  · simp only [go_sem, h2, mbOf, codeN, codeG, Bool.not_false]
  simp only [go_sem, Bool.not_true]
  refine callX_of hG ?_
  simp only [go_sem]
  have step : ∀ (k a : Nat), x.src[k]? = some a → (!groupN x.g || (x.src.take (k + 1)).any fun a => !hostN a) = ((!groupN x.g || (x.src.take k).any fun a => !hostN a) || !hostN a) := by
    intro k a ha
    rw [List.take_add_one, ha, List.any_append]
    simp [Bool.or_assoc]
  refine aw_loop (fun m E => ∃ k : Nat, k + m = x.src.length ∧ E = mkE [(5, .lp 5 0), (6, .lit (.bool (!groupN x.g || (x.src.take k).any fun a => !hostN a))), (7, .lit (.int .i64 (k : Nat)))] [(2, netV w), (5, [.lit (.int .i64 x.lk), avU x.g, .lit (.bool x.only), .sl .none 1 (x.src.map avU)])]) x.src.length ?_ ?_
  · exact ⟨0, by omega, by simp only [go_sem, Int.natCast_zero, List.take_zero, List.any_nil]; rfl⟩
  · rintro m _ ⟨k, hk, rfl⟩
    by_cases hkl : k < x.src.length
    · have f1 : ((k : Int) < (x.src.length : Int)) = True := eq_true (by omega)
      obtain ⟨a, ha⟩ : ∃ a, x.src[k]? = some a := ⟨x.src[k], List.getElem?_eq_getElem hkl⟩
      have hw := wrap_succ k (by omega)
      have hr := fun x => avRow_some 1 .none (AV.lit x) rfl
      have hA := C_rGroup a (h.mbs x hm a (List.mem_of_getElem? ha))
      simp only [avU] at hA
      have hs := step k a ha
      generalize hb : (!groupN x.g || (x.src.take k).any fun a => !hostN a) = b at hs
      have next : ∀ b', b' = (b || !hostN a) → mkE [(5, .lp 5 0), (6, .lit (.bool b')), (7, .lit (.int .i64 ((k + 1 : Nat) : Int)))] [(2, netV w), (5, [.lit (.int .i64 x.lk), avU x.g, .lit (.bool x.only), .sl .none 1 (x.src.map avU)])] = mkE [(5, .lp 5 0), (6, .lit (.bool (!groupN x.g || (x.src.take (k + 1)).any fun a => !hostN a))), (7, .lit (.int .i64 ((k + 1 : Nat) : Int)))] [(2, netV w), (5, [.lit (.int .i64 x.lk), avU x.g, .lit (.bool x.only), .sl .none 1 (x.src.map avU)])] := fun b' e => by rw [hs, e]
      cases b with
      | true =>
        simp only [go_sem, f1, decide_true, List.length_map, hw]
        exact ⟨m - 1, by omega, k + 1, by omega, next true rfl⟩
      | false =>
        simp only [go_sem, f1, decide_true, List.length_map, Int.toNat_natCast, Int.natCast_nonneg, List.getElem?_map, ha, Option.map_some, hr, avU, hw]
        refine callX_of hA ?_
        cases hg : groupN a
        · simp only [go_sem, List.length_map, Int.toNat_natCast, Int.natCast_nonneg, List.getElem?_map, ha, Option.map_some, hr, avU, nb0, hw]
          exact ⟨m - 1, by omega, k + 1, by omega, next (a == 0) (by simp only [hostN, hg]; cases a == 0 <;> rfl)⟩
        · simp only [go_sem, hw]
          exact ⟨m - 1, by omega, k + 1, by omega, next true (by simp only [hostN, hg]; cases a == 0 <;> rfl)⟩
    · obtain rfl : k = x.src.length := by omega
      have f1 : ((x.src.length : Int) < (x.src.length : Int)) = False := eq_false (by omega)
      rw [List.take_length]
      cases hb : (!groupN x.g || x.src.any fun a => !hostN a)
      case true => simp only [go_sem, f1, decide_false, List.length_map, mbOf, h2, hb, codeN, codeG, Bool.true_eq_false]
      by_cases h5 : 4 < x.src.length
      · have f5 : (4 < (x.src.length : Int)) = True := eq_true (by omega)
        simp only [go_sem, f1, f5, decide_false, decide_true, List.length_map, mbOf, h2, hb, h5, codeN, codeG, Bool.true_eq_false, Bool.false_eq_true]
      have f5 : (4 < (x.src.length : Int)) = False := eq_false (by omega)
      simp only [go_sem, f1, f5, decide_false, List.length_map]
      refine aw_loop (fun m E => ∃ k : Nat, k + m = x.src.length ∧ (∀ (j y : Nat), j < k → x.src[j]? = some y → ((x.src.take j).any fun z => z == y) = false) ∧ E = mkE [(5, .lp 5 0), (8, .lit (.int .i64 (k : Nat)))] [(2, netV w), (5, [.lit (.int .i64 x.lk), avU x.g, .lit (.bool x.only), .sl .none 1 (x.src.map avU)])]) x.src.length ?_ ?_
      · exact ⟨0, by omega, fun j y hj => absurd hj (Nat.not_lt_zero j), by simp only [go_sem, Int.natCast_zero]⟩
      · rintro m _ ⟨k, hk, hall, rfl⟩
        by_cases hkl : k < x.src.length
        · have f2 : ((k : Int) < (x.src.length : Int)) = True := eq_true (by omega)
          obtain ⟨a, ha⟩ : ∃ a, x.src[k]? = some a := ⟨x.src[k], List.getElem?_eq_getElem hkl⟩
          have hw := wrap_succ k (by omega)
          have hr := fun x => avRow_some 1 .none (AV.lit x) rfl
          have sl1 := headSl avU 1 x.src k (by omega)
          have hH := C_HasU .none 1 (x.src.take k) a rfl (.inl rfl) (by rw [List.length_take]; omega)
          simp only [avU] at hH
          simp only [go_sem, f2, decide_true, List.length_map, Int.toNat_natCast, Int.natCast_nonneg, List.getElem?_map, ha, Option.map_some, hr, avU, sl1]
          refine callX_of hH ?_
          cases hp : (x.src.take k).any fun y => y == a
          · simp only [go_sem, hw]
            refine ⟨m - 1, by omega, k + 1, by omega, fun j y hj hy => ?_, rfl⟩
            by_cases hjk : j = k
            · subst hjk; rw [ha] at hy; injection hy with hy; rw [← hy]; exact hp
            · exact hall j y (by omega) hy
          · have hn := not_nodup_of ha hp
            simp only [go_sem, mbOf, h2, hb, h5, hn, codeN, codeG, decide_false, Bool.true_eq_false, Bool.false_eq_true]
        · have f2 : ((k : Int) < (x.src.length : Int)) = False := eq_false (by omega)
          have hn : x.src.Nodup := nodup_of fun j y hy => hall j y (by have := (List.getElem?_eq_some_iff.1 hy).1; omega) hy
          simp only [go_sem, f2, decide_false, List.length_map, mbOf, h2, hb, h5, hn, codeN, codeG, decide_true, Bool.true_eq_false, Bool.false_eq_true]
theorem one_net (w : NW) : (netV w).all AV.one = true := rfl
theorem len_net (w : NW) : (netV w).length = 7 := rfl
theorem take_net (w : NW) : (netV w).take 7 = netV w := rfl
theorem R_valid (w : NW) (h : w.OK) (k i : Nat) (hk : k < 7) (hi : i < lenN w k) : AC Tryz.prog f_q56 [.agg (netV w), .lit (.int .i64 (k : Nat)), .lit (.int .i64 (i : Nat))] (.lit (.int .i64 (codeN (vAt w k i)))) := by
  refine ac_q56 ?_ (Nat.le_add_left 3 _)
  have cc : ∀ n : Nat, ((k : Int) == (n : Int)) = (k == n) := fun n => nat_beqb k n
  match k, hk, hi with
  | 0, _, hi =>
    have e := List.getElem?_eq_getElem (show i < w.rts.length from hi)
    have hC := R_router w h i _ e
    simp only [go_sem, c_q56, show (((0 : Nat) : Int) == 0) = true from rfl, low_net, one_net, len_net, take_net, Nat.le_refl]
    refine callX_of hC ?_
    simp only [go_sem, vAt, e, Option.bind_some]
  | 1, _, hi =>
    have e := List.getElem?_eq_getElem (show i < w.lks.length from hi)
    have hC := R_link w h i _ e
    simp only [go_sem, c_q56, show (((1 : Nat) : Int) == 0) = false from rfl, show (((1 : Nat) : Int) == 1) = true from rfl, low_net, one_net, len_net, take_net, Nat.le_refl]
    refine callX_of hC ?_
    simp only [go_sem, vAt, e, Option.bind_some]
  | 2, _, hi =>
    have e := List.getElem?_eq_getElem (show i < w.pts.length from hi)
    have hC := R_port w h i _ e
    simp only [go_sem, c_q56, show (((2 : Nat) : Int) == 0) = false from rfl, show (((2 : Nat) : Int) == 1) = false from rfl, show (((2 : Nat) : Int) == 2) = true from rfl, low_net, one_net, len_net, take_net, Nat.le_refl]
    refine callX_of hC ?_
    simp only [go_sem, vAt, e, Option.bind_some]
  | 3, _, hi =>
    have e := List.getElem?_eq_getElem (show i < w.ros.length from hi)
    have hC := R_route w h i _ e
    simp only [go_sem, c_q56, show (((3 : Nat) : Int) == 0) = false from rfl, show (((3 : Nat) : Int) == 1) = false from rfl, show (((3 : Nat) : Int) == 2) = false from rfl, show (((3 : Nat) : Int) == 3) = true from rfl, low_net, one_net, len_net, take_net, Nat.le_refl]
    refine callX_of hC ?_
    simp only [go_sem, vAt, e, Option.bind_some]
  | 4, _, hi =>
    have e := List.getElem?_eq_getElem (show i < w.rgs.length from hi)
    have hC := R_groups w h i _ e
    simp only [go_sem, c_q56, show (((4 : Nat) : Int) == 0) = false from rfl, show (((4 : Nat) : Int) == 1) = false from rfl, show (((4 : Nat) : Int) == 2) = false from rfl, show (((4 : Nat) : Int) == 3) = false from rfl, show (((4 : Nat) : Int) == 4) = true from rfl, low_net, one_net, len_net, take_net, Nat.le_refl]
    refine callX_of hC ?_
    simp only [go_sem, vAt, e, Option.bind_some]
  | 5, _, hi =>
    have e := List.getElem?_eq_getElem (show i < w.scs.length from hi)
    have hC := R_source w h i _ e
    simp only [go_sem, c_q56, show (((5 : Nat) : Int) == 0) = false from rfl, show (((5 : Nat) : Int) == 1) = false from rfl, show (((5 : Nat) : Int) == 2) = false from rfl, show (((5 : Nat) : Int) == 3) = false from rfl, show (((5 : Nat) : Int) == 4) = false from rfl, show (((5 : Nat) : Int) == 5) = true from rfl, low_net, one_net, len_net, take_net, Nat.le_refl]
    refine callX_of hC ?_
    simp only [go_sem, vAt, e, Option.bind_some]
  | 6, _, hi =>
    have e := List.getElem?_eq_getElem (show i < w.mbs.length from hi)
    have hC := R_member w h i _ e
    simp only [go_sem, c_q56, show (((6 : Nat) : Int) == 0) = false from rfl, show (((6 : Nat) : Int) == 1) = false from rfl, show (((6 : Nat) : Int) == 2) = false from rfl, show (((6 : Nat) : Int) == 3) = false from rfl, show (((6 : Nat) : Int) == 4) = false from rfl, show (((6 : Nat) : Int) == 5) = false from rfl, low_net, one_net, len_net, take_net, Nat.le_refl]
    refine callX_of hC ?_
    simp only [go_sem, vAt, e, Option.bind_some]
def lensV (w : NW) : List AV := [.lit (.int .i64 (w.rts.length : Nat)), .lit (.int .i64 (w.lks.length : Nat)), .lit (.int .i64 (w.pts.length : Nat)), .lit (.int .i64 (w.ros.length : Nat)), .lit (.int .i64 (w.rgs.length : Nat)), .lit (.int .i64 (w.scs.length : Nat)), .lit (.int .i64 (w.mbs.length : Nat))]
def mostsV : List AV := [.lit (.int .i64 16), .lit (.int .i64 24), .lit (.int .i64 64), .lit (.int .i64 96), .lit (.int .i64 8), .lit (.int .i64 8), .lit (.int .i64 24)]
theorem lensV_get (w : NW) (k : Nat) (h : k < 7) : (lensV w)[k]? = some (.lit (.int .i64 (lenN w k : Nat))) := by
  match k, h with
  | 0, _ => rfl
  | 1, _ => rfl
  | 2, _ => rfl
  | 3, _ => rfl
  | 4, _ => rfl
  | 5, _ => rfl
  | 6, _ => rfl
  | k + 7, h => omega
theorem mostsV_get (k : Nat) (h : k < 7) : mostsV[k]? = some (.lit (.int .i64 (mostN k : Nat))) := by
  match k, h with
  | 0, _ => rfl
  | 1, _ => rfl
  | 2, _ => rfl
  | 3, _ => rfl
  | 4, _ => rfl
  | 5, _ => rfl
  | 6, _ => rfl
  | k + 7, h => omega
theorem R_sizes (w : NW) : AC Tryz.prog f_q55 [.agg (netV w)] (.tup [.agg (lensV w), .agg mostsV]) := by
  refine ac_q55 ?_ (Nat.le_add_left 1 _)
  simp only [go_sem, c_q55, netV, List.length_map]
  rfl
theorem ld_drop (l : List AV) (k : Nat) : aval.ld false 1 (l.drop k) = l[k]? := by simp [aval.ld]
theorem codeG_ne (g : Nat) : (codeG g != 0) = true := by
  unfold codeG
  split <;> rfl
theorem R_Valid (w : NW) (h : w.OK) : AC Tryz.prog f_q31 [.agg (netV w)] (.lit (.int .i64 (codeN (vNet w)))) := by
  refine ac_q31 ?_ (Nat.le_add_left 1 _)
  simp only [go_sem, c_q31, low_net, one_net, len_net, take_net, Nat.le_refl]
  refine callX_of (R_sizes w) ?_
  have g1 : (lensV w).all AV.one = true := rfl
  have g2 : mostsV.all AV.one = true := rfl
  have g3 : (lensV w).length = 7 := rfl
  have g4 : mostsV.length = 7 := rfl
  have g5 : ∀ d, retagL d (lensV w) = lensV w := fun _ => rfl
  have g6 : ∀ d, retagL d mostsV = mostsV := fun _ => rfl
  simp only [go_sem, g1, g2, g3, g4, g5, g6]
  refine aw_loop (fun m E => ∃ k : Nat, k + m = 7 ∧ scanK w m k = vNet w ∧ E = mkE [(1, .lp 1 0), (3, .lp 3 0), (4, .lp 4 0), (5, .lit (.int .i64 (k : Nat)))] [(1, netV w), (3, lensV w), (4, mostsV)]) 7 ?_ ?_
  · exact ⟨0, rfl, rfl, by simp only [go_sem]; rfl⟩
  · rintro m _ ⟨k, hk, hs, rfl⟩
    by_cases hk7 : k < 7
    · have f1 : ((k : Int) < 7) = True := eq_true (by omega)
      have hw := wrap_succ k (by omega)
      obtain ⟨m, rfl⟩ : ∃ m', m = m' + 1 := ⟨m - 1, by omega⟩
      have hlen := lenN_lt w h k
      simp only [go_sem, f1, decide_true]
      refine aw_loop (fun q E => ∃ i : Nat, i + q = lenN w k ∧ vList w k i = vList w k 0 ∧ E = mkE [(1, .lp 1 0), (3, .lp 3 0), (4, .lp 4 0), (5, .lit (.int .i64 (k : Nat))), (6, .lit (.int .i64 (i : Nat)))] [(1, netV w), (3, lensV w), (4, mostsV)]) (lenN w k) ?_ ?_
      · exact ⟨0, by omega, rfl, by simp only [go_sem, Int.natCast_zero]⟩
      · rintro q _ ⟨i, hi, hvi, rfl⟩
        have l1 : aval.ld false 1 ((lensV w).drop k) = _ := (ld_drop _ _).trans (lensV_get w k hk7)
        have l2 : aval.ld false 1 (mostsV.drop k) = _ := (ld_drop _ _).trans (mostsV_get k hk7)
        have f7 : ((k : Int) < ((7 : Nat) : Int)) = True := eq_true (by omega)
        by_cases hil : i < lenN w k
        · have f2 : ((i : Int) < (lenN w k : Int)) = True := eq_true (by omega)
          have hw2 := wrap_succ i (by omega)
          have hC := R_valid w h k i hk7 hil
          by_cases hm : mostN k ≤ i
          · have f3 : ((mostN k : Int) ≤ (i : Int)) = True := eq_true (by omega)
            have e : vNet w = some 0 := by rw [← hs]; exact scanK_hit w k m _ (by rw [← hvi]; exact vList_many w k i hil hm)
            simp only [go_sem, f1, f7, f2, f3, decide_true, l1, l2, Int.toNat_natCast, Int.natCast_nonneg, Nat.mul_one, Nat.zero_add, e, codeN, codeG]
          · have f3 : ((mostN k : Int) ≤ (i : Int)) = False := eq_false (by omega)
            simp only [go_sem, f1, f7, f2, f3, decide_true, decide_false, l1, l2, Int.toNat_natCast, Int.natCast_nonneg, Nat.mul_one, Nat.zero_add, low_net, one_net, len_net, take_net, Nat.le_refl]
            refine callX_of hC ?_
            cases hva : vAt w k i with
            | some g =>
              have e : vNet w = some g := by rw [← hs]; exact scanK_hit w k m _ (by rw [← hvi]; exact vList_some w k i g hil (by omega) hva)
              have hne := codeG_ne g
              simp only [go_sem, codeN, e, hne]
            | none =>
              simp only [go_sem, codeN, b000, hw2]
              exact ⟨q - 1, by omega, i + 1, by omega, by rw [← hvi]; exact (vList_none w k i hil (by omega) hva).symm, rfl⟩
        · have f2 : ((i : Int) < (lenN w k : Int)) = False := eq_false (by omega)
          simp only [go_sem, f1, f7, f2, decide_true, decide_false, l1, Int.toNat_natCast, Int.natCast_nonneg, Nat.mul_one, Nat.zero_add, hw]
          exact ⟨m, by omega, k + 1, by omega, by rw [← hs]; exact (scanK_go w k m (by rw [← hvi]; exact vList_end w k i (by omega))).symm, rfl⟩
    · have f1 : ((k : Int) < 7) = False := eq_false (by omega)
      obtain rfl : m = 0 := by omega
      rw [← hs]
      simp only [go_sem, f1, decide_false, scanK, codeN]
end Go.Proofs.YtelbgkknneljeaaGreatDoor.VL
end

section
set_option maxHeartbeats 4000000
namespace Go.Proofs.YtelbgkknneljeaaGreatDoor.VL
open Go.RowKit Go.Proofs
def lightN (w : NW) (r : Nat) : Bool := decide (w.rts.length ≤ r) && (decide (w.lks.length ≤ 12) && (decide (w.pts.length ≤ 24) && (decide (w.ros.length ≤ 30) && (decide (w.rgs.length ≤ 4) && (decide (w.scs.length ≤ 5) && (decide (w.mbs.length ≤ 10) && (vNet w).isNone))))))
structure LightOK (w : NW) (r : Nat) : Prop where
  l1 : w.rts.length ≤ r
  l2 : w.lks.length ≤ 12
  l3 : w.pts.length ≤ 24
  l4 : w.ros.length ≤ 30
  l5 : w.rgs.length ≤ 4
  l6 : w.scs.length ≤ 5
  l7 : w.mbs.length ≤ 10
  v : vNet w = none
theorem lightN_iff {w : NW} {r : Nat} : lightN w r = true ↔ LightOK w r := by
  simp only [lightN, Bool.and_eq_true, decide_eq_true_eq, Option.isNone_iff_eq_none]
  exact ⟨fun ⟨a, b, c, d, e, f, g, i⟩ => ⟨a, b, c, d, e, f, g, i⟩, fun ⟨a, b, c, d, e, f, g, i⟩ => ⟨a, b, c, d, e, f, g, i⟩⟩
theorem C_Light (w : NW) (h : w.OK) (r : Nat) : AC Tryz.prog f_q6 [.agg (netV w), .lit (.int .i64 (r : Nat))] (.lit (.bool (lightN w r))) := by
  refine ac_q6 ?_ (Nat.le_add_left 2 _)
  by_cases a1 : w.rts.length ≤ r
  case neg =>
    have f1 : ((w.rts.length : Int) ≤ (r : Int)) = False := eq_false (by omega)
    simp only [go_sem, c_q6, netV, List.length_map, f1, decide_false, lightN, a1, Bool.false_and]
  have f1 : ((w.rts.length : Int) ≤ (r : Int)) = True := eq_true (by omega)
  by_cases a2 : w.lks.length ≤ 12
  case neg =>
    have f2 : ((w.lks.length : Int) ≤ 12) = False := eq_false (by omega)
    simp only [go_sem, c_q6, netV, List.length_map, f1, f2, decide_true, decide_false, lightN, a1, a2, Bool.false_and, Bool.true_and]
  have f2 : ((w.lks.length : Int) ≤ 12) = True := eq_true (by omega)
  by_cases a3 : w.pts.length ≤ 24
  case neg =>
    have f3 : ((w.pts.length : Int) ≤ 24) = False := eq_false (by omega)
    simp only [go_sem, c_q6, netV, List.length_map, f1, f2, f3, decide_true, decide_false, lightN, a1, a2, a3, Bool.false_and, Bool.true_and]
  have f3 : ((w.pts.length : Int) ≤ 24) = True := eq_true (by omega)
  by_cases a4 : w.ros.length ≤ 30
  case neg =>
    have f4 : ((w.ros.length : Int) ≤ 30) = False := eq_false (by omega)
    simp only [go_sem, c_q6, netV, List.length_map, f1, f2, f3, f4, decide_true, decide_false, lightN, a1, a2, a3, a4, Bool.false_and, Bool.true_and]
  have f4 : ((w.ros.length : Int) ≤ 30) = True := eq_true (by omega)
  by_cases a5 : w.rgs.length ≤ 4
  case neg =>
    have f5 : ((w.rgs.length : Int) ≤ 4) = False := eq_false (by omega)
    simp only [go_sem, c_q6, netV, List.length_map, f1, f2, f3, f4, f5, decide_true, decide_false, lightN, a1, a2, a3, a4, a5, Bool.false_and, Bool.true_and]
  have f5 : ((w.rgs.length : Int) ≤ 4) = True := eq_true (by omega)
  by_cases a6 : w.scs.length ≤ 5
  case neg =>
    have f6 : ((w.scs.length : Int) ≤ 5) = False := eq_false (by omega)
    simp only [go_sem, c_q6, netV, List.length_map, f1, f2, f3, f4, f5, f6, decide_true, decide_false, lightN, a1, a2, a3, a4, a5, a6, Bool.false_and, Bool.true_and]
  have f6 : ((w.scs.length : Int) ≤ 5) = True := eq_true (by omega)
  by_cases a7 : w.mbs.length ≤ 10
  case neg =>
    have f7 : ((w.mbs.length : Int) ≤ 10) = False := eq_false (by omega)
    simp only [go_sem, c_q6, netV, List.length_map, f1, f2, f3, f4, f5, f6, f7, decide_true, decide_false, lightN, a1, a2, a3, a4, a5, a6, a7, Bool.false_and, Bool.true_and]
  have f7 : ((w.mbs.length : Int) ≤ 10) = True := eq_true (by omega)
  have hV := R_Valid w h
  simp only [netV] at hV
  simp only [go_sem, c_q6, netV, List.length_map, f1, f2, f3, f4, f5, f6, f7, decide_true]
  refine callX_of hV ?_
  have e : (codeN (vNet w) == 0) = (vNet w).isNone := by
    cases hv : vNet w with
    | none => rfl
    | some g =>
      have := codeG_ne g
      simp only [codeN, Option.isNone_some]
      rw [bne, Bool.not_eq_true'] at this
      exact this
  simp only [go_sem, e, lightN, a1, a2, a3, a4, a5, a6, a7, decide_true, Bool.true_and]
end Go.Proofs.YtelbgkknneljeaaGreatDoor.VL
end

section
set_option maxHeartbeats 4000000
namespace Go.Proofs.YtelbgkknneljeaaGreatDoor.VL
open Go.RowKit Go.Proofs
theorem rep_own_none {E : RE} {τ : List Nat} {e : Nat} {rows : List AV} {v : Value} (h : Rep E (.sl (.own τ) e rows) v) : Rep E (.sl .none e rows) v := by
  simp only [Rep] at h ⊢
  obtain ⟨A, cap, vs, rfl, h1, h2, h3, h4, h5⟩ := h
  refine ⟨A, cap, vs, rfl, h1, h2, h3, h4, fun hne => ?_⟩
  rcases h5 with ⟨_, h0⟩ | ⟨g, cur, ty, ha, hat, _⟩
  · exact absurd (List.eq_nil_of_length_eq_zero (by omega)) hne
  · exact ⟨g, 0, ha, hat⟩
theorem K0_Router (t : Tok) (e : Nat) : AC Tryz.prog f_q64 [.sl t e []] (.sl .none 2 []) := by
  refine AC_hdr fun A cap => ?_
  cases A with
  | none =>
    refine AC_weak (r := .sl .nil 0 []) (ac_q64 ?_ (Nat.le_add_left 1 _)) (fun E v h => rep_sl0 h)
    simp only [go_sem, c_q64, isNone_none]
  | some ad =>
    refine AC_weak (r := .sl (.fr [7]) 2 []) (ac_q64 ?_ (Nat.le_add_left 1 _)) (fun E v h => rep_sl0 h)
    simp only [go_sem, c_q64, isNone_some]
    refine shiftX_of (VS.lit0 (k := 0) (e := 2) .none rfl (.inl rfl)) ?_
    rintro _ rfl
    simp only [mkE_put, go_sem]
    refine bslX_fr ?_
    have e : ∀ s c, avApp 2 24 [] 7 s c (.sl (.fr [5]) 2 []) (.sl .none 2 []) = _ := fun s c => avApp_fr 2 24 [] [5] [] [] .none (by decide) (by decide) rfl
    simp only [go_sem, e, List.append_nil]
theorem K_Router (rows : List AV) (hl : rows.length ≤ 4294967296) : AC Tryz.prog f_q64 [.sl .none 2 rows] (.sl .none 2 rows) := by
  by_cases h0 : rows = []
  · subst h0
    exact K0_Router .none 2
  refine AC_weak (r := .sl (.own [7]) 2 rows) (ac_q64 ?_ (Nat.le_add_left 1 _)) (fun E v h => rep_own_none h)
  simp only [go_sem, c_q64, avEqs_ne _ _ _ h0]
  refine shiftX_refl ?_
  simp only [go_sem]
  refine bslX_own ?_
  have e : ∀ s c, avApp 2 24 [] 7 s c (.sl (.own [5]) 2 []) (.sl .none 2 rows) = _ := fun s c => avApp_own 2 24 [] [5] [] rows .none (by simpa using hl) (by decide) rfl
  simp only [go_sem, e, List.nil_append]
theorem K0_Link (t : Tok) (e : Nat) : AC Tryz.prog f_q65 [.sl t e []] (.sl .none 3 []) := by
  refine AC_hdr fun A cap => ?_
  cases A with
  | none =>
    refine AC_weak (r := .sl .nil 0 []) (ac_q65 ?_ (Nat.le_add_left 1 _)) (fun E v h => rep_sl0 h)
    simp only [go_sem, c_q65, isNone_none]
  | some ad =>
    refine AC_weak (r := .sl (.fr [7]) 3 []) (ac_q65 ?_ (Nat.le_add_left 1 _)) (fun E v h => rep_sl0 h)
    simp only [go_sem, c_q65, isNone_some]
    refine shiftX_of (VS.lit0 (k := 0) (e := 3) .none rfl (.inl rfl)) ?_
    rintro _ rfl
    simp only [mkE_put, go_sem]
    refine bslX_fr ?_
    have e : ∀ s c, avApp 3 32 [] 7 s c (.sl (.fr [5]) 3 []) (.sl .none 3 []) = _ := fun s c => avApp_fr 3 32 [] [5] [] [] .none (by decide) (by decide) rfl
    simp only [go_sem, e, List.append_nil]
theorem K_Link (rows : List AV) (hl : rows.length ≤ 4294967296) : AC Tryz.prog f_q65 [.sl .none 3 rows] (.sl .none 3 rows) := by
  by_cases h0 : rows = []
  · subst h0
    exact K0_Link .none 3
  refine AC_weak (r := .sl (.own [7]) 3 rows) (ac_q65 ?_ (Nat.le_add_left 1 _)) (fun E v h => rep_own_none h)
  simp only [go_sem, c_q65, avEqs_ne _ _ _ h0]
  refine shiftX_refl ?_
  simp only [go_sem]
  refine bslX_own ?_
  have e : ∀ s c, avApp 3 32 [] 7 s c (.sl (.own [5]) 3 []) (.sl .none 3 rows) = _ := fun s c => avApp_own 3 32 [] [5] [] rows .none (by simpa using hl) (by decide) rfl
  simp only [go_sem, e, List.nil_append]
theorem K0_Port (t : Tok) (e : Nat) : AC Tryz.prog f_q66 [.sl t e []] (.sl .none 3 []) := by
  refine AC_hdr fun A cap => ?_
  cases A with
  | none =>
    refine AC_weak (r := .sl .nil 0 []) (ac_q66 ?_ (Nat.le_add_left 1 _)) (fun E v h => rep_sl0 h)
    simp only [go_sem, c_q66, isNone_none]
  | some ad =>
    refine AC_weak (r := .sl (.fr [7]) 3 []) (ac_q66 ?_ (Nat.le_add_left 1 _)) (fun E v h => rep_sl0 h)
    simp only [go_sem, c_q66, isNone_some]
    refine shiftX_of (VS.lit0 (k := 0) (e := 3) .none rfl (.inl rfl)) ?_
    rintro _ rfl
    simp only [mkE_put, go_sem]
    refine bslX_fr ?_
    have e : ∀ s c, avApp 3 24 [] 7 s c (.sl (.fr [5]) 3 []) (.sl .none 3 []) = _ := fun s c => avApp_fr 3 24 [] [5] [] [] .none (by decide) (by decide) rfl
    simp only [go_sem, e, List.append_nil]
theorem K_Port (rows : List AV) (hl : rows.length ≤ 4294967296) : AC Tryz.prog f_q66 [.sl .none 3 rows] (.sl .none 3 rows) := by
  by_cases h0 : rows = []
  · subst h0
    exact K0_Port .none 3
  refine AC_weak (r := .sl (.own [7]) 3 rows) (ac_q66 ?_ (Nat.le_add_left 1 _)) (fun E v h => rep_own_none h)
  simp only [go_sem, c_q66, avEqs_ne _ _ _ h0]
  refine shiftX_refl ?_
  simp only [go_sem]
  refine bslX_own ?_
  have e : ∀ s c, avApp 3 24 [] 7 s c (.sl (.own [5]) 3 []) (.sl .none 3 rows) = _ := fun s c => avApp_own 3 24 [] [5] [] rows .none (by simpa using hl) (by decide) rfl
  simp only [go_sem, e, List.nil_append]
theorem K0_Route (t : Tok) (e : Nat) : AC Tryz.prog f_q67 [.sl t e []] (.sl .none 5 []) := by
  refine AC_hdr fun A cap => ?_
  cases A with
  | none =>
    refine AC_weak (r := .sl .nil 0 []) (ac_q67 ?_ (Nat.le_add_left 1 _)) (fun E v h => rep_sl0 h)
    simp only [go_sem, c_q67, isNone_none]
  | some ad =>
    refine AC_weak (r := .sl (.fr [7]) 5 []) (ac_q67 ?_ (Nat.le_add_left 1 _)) (fun E v h => rep_sl0 h)
    simp only [go_sem, c_q67, isNone_some]
    refine shiftX_of (VS.lit0 (k := 0) (e := 5) .none rfl (.inl rfl)) ?_
    rintro _ rfl
    simp only [mkE_put, go_sem]
    refine bslX_fr ?_
    have e : ∀ s c, avApp 5 40 [] 7 s c (.sl (.fr [5]) 5 []) (.sl .none 5 []) = _ := fun s c => avApp_fr 5 40 [] [5] [] [] .none (by decide) (by decide) rfl
    simp only [go_sem, e, List.append_nil]
theorem K_Route (rows : List AV) (hl : rows.length ≤ 4294967296) : AC Tryz.prog f_q67 [.sl .none 5 rows] (.sl .none 5 rows) := by
  by_cases h0 : rows = []
  · subst h0
    exact K0_Route .none 5
  refine AC_weak (r := .sl (.own [7]) 5 rows) (ac_q67 ?_ (Nat.le_add_left 1 _)) (fun E v h => rep_own_none h)
  simp only [go_sem, c_q67, avEqs_ne _ _ _ h0]
  refine shiftX_refl ?_
  simp only [go_sem]
  refine bslX_own ?_
  have e : ∀ s c, avApp 5 40 [] 7 s c (.sl (.own [5]) 5 []) (.sl .none 5 rows) = _ := fun s c => avApp_own 5 40 [] [5] [] rows .none (by simpa using hl) (by decide) rfl
  simp only [go_sem, e, List.nil_append]
theorem K0_Range (t : Tok) (e : Nat) : AC Tryz.prog f_q68 [.sl t e []] (.sl .none 3 []) := by
  refine AC_hdr fun A cap => ?_
  cases A with
  | none =>
    refine AC_weak (r := .sl .nil 0 []) (ac_q68 ?_ (Nat.le_add_left 1 _)) (fun E v h => rep_sl0 h)
    simp only [go_sem, c_q68, isNone_none]
  | some ad =>
    refine AC_weak (r := .sl (.fr [7]) 3 []) (ac_q68 ?_ (Nat.le_add_left 1 _)) (fun E v h => rep_sl0 h)
    simp only [go_sem, c_q68, isNone_some]
    refine shiftX_of (VS.lit0 (k := 0) (e := 3) .none rfl (.inl rfl)) ?_
    rintro _ rfl
    simp only [mkE_put, go_sem]
    refine bslX_fr ?_
    have e : ∀ s c, avApp 3 24 [] 7 s c (.sl (.fr [5]) 3 []) (.sl .none 3 []) = _ := fun s c => avApp_fr 3 24 [] [5] [] [] .none (by decide) (by decide) rfl
    simp only [go_sem, e, List.append_nil]
theorem K_Range (rows : List AV) (hl : rows.length ≤ 4294967296) : AC Tryz.prog f_q68 [.sl .none 3 rows] (.sl .none 3 rows) := by
  by_cases h0 : rows = []
  · subst h0
    exact K0_Range .none 3
  refine AC_weak (r := .sl (.own [7]) 3 rows) (ac_q68 ?_ (Nat.le_add_left 1 _)) (fun E v h => rep_own_none h)
  simp only [go_sem, c_q68, avEqs_ne _ _ _ h0]
  refine shiftX_refl ?_
  simp only [go_sem]
  refine bslX_own ?_
  have e : ∀ s c, avApp 3 24 [] 7 s c (.sl (.own [5]) 3 []) (.sl .none 3 rows) = _ := fun s c => avApp_own 3 24 [] [5] [] rows .none (by simpa using hl) (by decide) rfl
  simp only [go_sem, e, List.nil_append]
theorem K0_Source (t : Tok) (e : Nat) : AC Tryz.prog f_q69 [.sl t e []] (.sl .none 3 []) := by
  refine AC_hdr fun A cap => ?_
  cases A with
  | none =>
    refine AC_weak (r := .sl .nil 0 []) (ac_q69 ?_ (Nat.le_add_left 1 _)) (fun E v h => rep_sl0 h)
    simp only [go_sem, c_q69, isNone_none]
  | some ad =>
    refine AC_weak (r := .sl (.fr [7]) 3 []) (ac_q69 ?_ (Nat.le_add_left 1 _)) (fun E v h => rep_sl0 h)
    simp only [go_sem, c_q69, isNone_some]
    refine shiftX_of (VS.lit0 (k := 0) (e := 3) .none rfl (.inl rfl)) ?_
    rintro _ rfl
    simp only [mkE_put, go_sem]
    refine bslX_fr ?_
    have e : ∀ s c, avApp 3 16 [] 7 s c (.sl (.fr [5]) 3 []) (.sl .none 3 []) = _ := fun s c => avApp_fr 3 16 [] [5] [] [] .none (by decide) (by decide) rfl
    simp only [go_sem, e, List.append_nil]
theorem K_Source (rows : List AV) (hl : rows.length ≤ 4294967296) : AC Tryz.prog f_q69 [.sl .none 3 rows] (.sl .none 3 rows) := by
  by_cases h0 : rows = []
  · subst h0
    exact K0_Source .none 3
  refine AC_weak (r := .sl (.own [7]) 3 rows) (ac_q69 ?_ (Nat.le_add_left 1 _)) (fun E v h => rep_own_none h)
  simp only [go_sem, c_q69, avEqs_ne _ _ _ h0]
  refine shiftX_refl ?_
  simp only [go_sem]
  refine bslX_own ?_
  have e : ∀ s c, avApp 3 16 [] 7 s c (.sl (.own [5]) 3 []) (.sl .none 3 rows) = _ := fun s c => avApp_own 3 16 [] [5] [] rows .none (by simpa using hl) (by decide) rfl
  simp only [go_sem, e, List.nil_append]
theorem K0_Member (t : Tok) (e : Nat) : AC Tryz.prog f_q70 [.sl t e []] (.sl .none 4 []) := by
  refine AC_hdr fun A cap => ?_
  cases A with
  | none =>
    refine AC_weak (r := .sl .nil 0 []) (ac_q70 ?_ (Nat.le_add_left 1 _)) (fun E v h => rep_sl0 h)
    simp only [go_sem, c_q70, isNone_none]
  | some ad =>
    refine AC_weak (r := .sl (.fr [7]) 4 []) (ac_q70 ?_ (Nat.le_add_left 1 _)) (fun E v h => rep_sl0 h)
    simp only [go_sem, c_q70, isNone_some]
    refine shiftX_of (VS.lit0 (k := 0) (e := 4) .none rfl (.inl rfl)) ?_
    rintro _ rfl
    simp only [mkE_put, go_sem]
    refine bslX_fr ?_
    have e : ∀ s c, avApp 4 40 [] 7 s c (.sl (.fr [5]) 4 []) (.sl .none 4 []) = _ := fun s c => avApp_fr 4 40 [] [5] [] [] .none (by decide) (by decide) rfl
    simp only [go_sem, e, List.append_nil]
theorem KF_Member (rows : List AV) (h0 : rows ≠ []) (hl : rows.length ≤ 4294967296) : AC Tryz.prog f_q70 [.sl .none 4 rows] (.sl (.fr [7]) 4 rows) := by
  refine ac_q70 ?_ (Nat.le_add_left 1 _)
  simp only [go_sem, c_q70, avEqs_ne _ _ _ h0]
  refine shiftX_refl ?_
  simp only [go_sem]
  refine bslX_fr ?_
  have e : ∀ s c, avApp 4 40 [] 7 s c (.sl (.fr [5]) 4 []) (.sl .none 4 rows) = _ := fun s c => avApp_fr 4 40 [] [5] [] rows .none (by simpa using hl) (by decide) rfl
  simp only [go_sem, e, List.nil_append]
theorem K0_Int (t : Tok) (e : Nat) : AC Tryz.prog f_q79 [.sl t e []] (.sl .none 1 []) := by
  refine AC_hdr fun A cap => ?_
  cases A with
  | none =>
    refine AC_weak (r := .sl .nil 0 []) (ac_q79 ?_ (Nat.le_add_left 1 _)) (fun E v h => rep_sl0 h)
    simp only [go_sem, c_q79, isNone_none]
  | some ad =>
    refine AC_weak (r := .sl (.fr [7]) 1 []) (ac_q79 ?_ (Nat.le_add_left 1 _)) (fun E v h => rep_sl0 h)
    simp only [go_sem, c_q79, isNone_some]
    refine shiftX_of (VS.lit0 (k := 0) (e := 1) .none rfl (.inl rfl)) ?_
    rintro _ rfl
    simp only [mkE_put, go_sem]
    refine bslX_fr ?_
    have e : ∀ s c, avApp 1 8 [] 7 s c (.sl (.fr [5]) 1 []) (.sl .none 1 []) = _ := fun s c => avApp_fr 1 8 [] [5] [] [] .none (by decide) (by decide) rfl
    simp only [go_sem, e, List.append_nil]
theorem K_Int (rows : List AV) (hl : rows.length ≤ 4294967296) : AC Tryz.prog f_q79 [.sl .none 1 rows] (.sl .none 1 rows) := by
  by_cases h0 : rows = []
  · subst h0
    exact K0_Int .none 1
  refine AC_weak (r := .sl (.own [7]) 1 rows) (ac_q79 ?_ (Nat.le_add_left 1 _)) (fun E v h => rep_own_none h)
  simp only [go_sem, c_q79, avEqs_ne _ _ _ h0]
  refine shiftX_refl ?_
  simp only [go_sem]
  refine bslX_own ?_
  have e : ∀ s c, avApp 1 8 [] 7 s c (.sl (.own [5]) 1 []) (.sl .none 1 rows) = _ := fun s c => avApp_own 1 8 [] [5] [] rows .none (by simpa using hl) (by decide) rfl
  simp only [go_sem, e, List.nil_append]
theorem K0_Addr (t : Tok) (e : Nat) : AC Tryz.prog f_q71 [.sl t e []] (.sl .none 1 []) := by
  refine AC_hdr fun A cap => ?_
  cases A with
  | none =>
    refine AC_weak (r := .sl .nil 0 []) (ac_q71 ?_ (Nat.le_add_left 1 _)) (fun E v h => rep_sl0 h)
    simp only [go_sem, c_q71, isNone_none]
  | some ad =>
    refine AC_weak (r := .sl (.fr [7]) 1 []) (ac_q71 ?_ (Nat.le_add_left 1 _)) (fun E v h => rep_sl0 h)
    simp only [go_sem, c_q71, isNone_some]
    refine shiftX_of (VS.lit0 (k := 0) (e := 1) .none rfl (.inl rfl)) ?_
    rintro _ rfl
    simp only [mkE_put, go_sem]
    refine bslX_fr ?_
    have e : ∀ s c, avApp 1 4 [] 7 s c (.sl (.fr [5]) 1 []) (.sl .none 1 []) = _ := fun s c => avApp_fr 1 4 [] [5] [] [] .none (by decide) (by decide) rfl
    simp only [go_sem, e, List.append_nil]
theorem K_Addr (rows : List AV) (hl : rows.length ≤ 4294967296) : AC Tryz.prog f_q71 [.sl .none 1 rows] (.sl .none 1 rows) := by
  by_cases h0 : rows = []
  · subst h0
    exact K0_Addr .none 1
  refine AC_weak (r := .sl (.own [7]) 1 rows) (ac_q71 ?_ (Nat.le_add_left 1 _)) (fun E v h => rep_own_none h)
  simp only [go_sem, c_q71, avEqs_ne _ _ _ h0]
  refine shiftX_refl ?_
  simp only [go_sem]
  refine bslX_own ?_
  have e : ∀ s c, avApp 1 4 [] 7 s c (.sl (.own [5]) 1 []) (.sl .none 1 rows) = _ := fun s c => avApp_own 1 4 [] [5] [] rows .none (by simpa using hl) (by decide) rfl
  simp only [go_sem, e, List.nil_append]
end Go.Proofs.YtelbgkknneljeaaGreatDoor.VL
end

section
set_option maxHeartbeats 4000000
namespace Go.Proofs.YtelbgkknneljeaaGreatDoor.VL
open Go.RowKit Go.Proofs
structure NW.Fit (w : NW) : Prop where
  l1 : w.rts.length ≤ 4294967296
  l2 : w.lks.length ≤ 4294967296
  l3 : w.pts.length ≤ 4294967296
  l4 : w.ros.length ≤ 4294967296
  l5 : w.rgs.length ≤ 4294967296
  l6 : w.scs.length ≤ 4294967296
  l7 : w.mbs.length ≤ 4294967296
  l8 : ∀ x ∈ w.mbs, x.src.length ≤ 4294967296
theorem C_cClone0 (w : NW) (h : w.Fit) (h0 : w.mbs = []) : AC Tryz.prog f_q33 [.agg (netV w)] (.agg (netV w)) := by
  refine ac_q33 ?_ (Nat.le_add_left 1 _)
  simp only [go_sem, c_q33, netV, h0, List.map_nil]
  refine callX_of (K_Router _ (by simpa using h.l1)) ?_
  simp only [go_sem]
  refine callX_of (K_Link _ (by simpa using h.l2)) ?_
  simp only [go_sem]
  refine callX_of (K_Port _ (by simpa using h.l3)) ?_
  simp only [go_sem]
  refine callX_of (K_Route _ (by simpa using h.l4)) ?_
  simp only [go_sem]
  refine callX_of (K_Range _ (by simpa using h.l5)) ?_
  simp only [go_sem]
  refine callX_of (K_Source _ (by simpa using h.l6)) ?_
  simp only [go_sem]
  refine callX_of (K0_Member _ _) ?_
  simp only [go_sem]
  refine shiftX_refl ?_
  simp only [go_sem, List.length_nil, Int.natCast_zero]
  refine aw_loop (fun m E => E = mkE [(2, .lp 2 0), (3, .lp 3 0), (29, .lit (.int .i64 0)), (30, .lit (.int .i64 0))] [(1, netV w), (2, [.sl .nil 0 [], .sl .nil 0 [], .sl .nil 0 [], .sl .nil 0 [], .sl .nil 0 [], .sl .nil 0 [], .sl .nil 0 []]), (3, netV w)]) 0 ?_ ?_
  · simp only [go_sem, netV, h0, List.map_nil]
  · rintro m _ rfl
    simp only [go_sem, Int.lt_irrefl, decide_false, netV, h0, List.map_nil]
theorem set_cell {s : List (Nat × AV)} {c : List (Nat × List AV)} {k i : Nat} {x : AV} {cs : List AV} (h : getC c k = some cs) : (mkE s c).set (.cell k i) x = mkE s (putA c k (cs.set i x)) := by
  simp only [Env.set, mkE_c, h, mkE_putc]
def mbCells (x : NM) : List AV := [.lit (.int .i64 x.lk), avU x.g, .lit (.bool x.only), .sl .none 1 (x.src.map avU)]
theorem mb_cells : ∀ l : List NM, (l.map avMb).flatMap cellsOf = l.flatMap mbCells
  | [] => rfl
  | x :: l => by simp only [List.map_cons, List.flatMap_cons, mb_cells l]; rfl
theorem mb_len : ∀ l : List NM, (l.flatMap mbCells).length = l.length * 4
  | [] => rfl
  | x :: l => by simp only [List.flatMap_cons, List.length_append, mb_len l, List.length_cons, mbCells, List.length_nil]; omega
theorem mb_get : ∀ (l : List NM) (i : Nat) (x : NM) (rest : List AV), l[i]? = some x → (l.flatMap mbCells ++ rest)[i * 4 + 3]? = some (.sl .none 1 (x.src.map avU))
  | [], i, x, rest, h => by simp at h
  | y :: l, 0, x, rest, h => by
    simp only [List.getElem?_cons_zero, Option.some.injEq] at h
    subst h
    rfl
  | y :: l, i + 1, x, rest, h => by
    simp only [List.getElem?_cons_succ] at h
    have := mb_get l i x rest h
    simp only [List.flatMap_cons, List.append_assoc]
    rw [List.getElem?_append_right (by simp [mbCells]; omega)]
    rw [← this]
    congr 1
    simp only [mbCells, List.length_cons, List.length_nil]
    omega
theorem chunk_mb : ∀ (l : List NM) (rest : List AV), chunk true 4 l.length (l.flatMap mbCells ++ rest) = l.map avMb
  | [], rest => rfl
  | x :: l, rest => by
    simp only [List.flatMap_cons, List.length_cons, List.map_cons, chunk, List.append_assoc]
    have := chunk_mb l rest
    rw [show mbCells x ++ (l.flatMap mbCells ++ rest) = [AV.lit (.int .i64 x.lk), avU x.g, AV.lit (.bool x.only), AV.sl .none 1 (x.src.map avU)] ++ (l.flatMap mbCells ++ rest) from rfl]
    simp only [List.cons_append, List.nil_append, List.take_succ_cons, List.take_zero, List.drop_succ_cons, List.drop_zero, this]
    rfl
theorem put_same {cs : List AV} {o : Nat} {x : AV} (h : cs[o]? = some x) : cs.take o ++ [x] ++ cs.drop (o + 1) = cs := by
  obtain ⟨h1, h2⟩ := List.getElem?_eq_some_iff.1 h
  have := List.set_eq_take_append_cons_drop (l := cs) (i := o) (a := x)
  rw [if_pos h1] at this
  rw [List.append_assoc, List.singleton_append, ← this, ← h2, List.set_getElem_self]
theorem C_cClone (w : NW) (h : w.Fit) : AC Tryz.prog f_q33 [.agg (netV w)] (.agg (netV w)) := by
  by_cases h0 : w.mbs = []
  · exact C_cClone0 w h h0
  refine ac_q33 ?_ (Nat.le_add_left 1 _)
  simp only [go_sem, c_q33, netV]
  refine callX_of (K_Router _ (by simpa using h.l1)) ?_
  simp only [go_sem]
  refine callX_of (K_Link _ (by simpa using h.l2)) ?_
  simp only [go_sem]
  refine callX_of (K_Port _ (by simpa using h.l3)) ?_
  simp only [go_sem]
  refine callX_of (K_Route _ (by simpa using h.l4)) ?_
  simp only [go_sem]
  refine callX_of (K_Range _ (by simpa using h.l5)) ?_
  simp only [go_sem]
  refine callX_of (K_Source _ (by simpa using h.l6)) ?_
  simp only [go_sem]
  refine callX_of (KF_Member _ (by simpa using h0) (by simpa using h.l7)) ?_
  simp only [go_sem]
  refine shiftX_of (VS.adopt (p := .cell 3 6) (g := true) 900 rfl (by simpa using h0) (fun r hr => ?_) (by decide) rfl) ?_
  · obtain ⟨n, _, rfl⟩ := List.mem_map.1 hr
    rfl
  rintro _ ⟨cap, j, hcap, rfl⟩
  rw [mb_cells]
  simp only [List.length_map] at hcap ⊢
  simp only [mkE_strip]
  rw [set_cell (cs := [.sl .none 2 (w.rts.map avRouter), .sl .none 3 (w.lks.map avLink), .sl .none 3 (w.pts.map avPort), .sl .none 5 (w.ros.map avRoute), .sl .none 3 (w.rgs.map avRange), .sl .none 3 (w.scs.map avSource), .sl .gone 4 (w.mbs.map avMb)]) (by simp only [go_sem])]
  simp only [mkE_putc]
  generalize hrest : List.replicate j AV.dead = rest
  have hl7 := h.l7
  simp only [go_sem, List.set_cons_succ, List.set_cons_zero]
  refine aw_loop (fun m E => ∃ i : Nat, i + m = w.mbs.length ∧ E = mkE [(2, .lp 2 0), (3, .lp 3 0), (29, .lit (.int .i64 (w.mbs.length : Nat))), (30, .lit (.int .i64 (i : Nat)))] [(1, netV w), (2, [.sl .nil 0 [], .sl .nil 0 [], .sl .nil 0 [], .sl .nil 0 [], .sl .nil 0 [], .sl .nil 0 [], .sl .nil 0 []]), (3, [.sl .none 2 (w.rts.map avRouter), .sl .none 3 (w.lks.map avLink), .sl .none 3 (w.pts.map avPort), .sl .none 5 (w.ros.map avRoute), .sl .none 3 (w.rgs.map avRange), .sl .none 3 (w.scs.map avSource), .ml 900 0 w.mbs.length cap true 4]), (900, w.mbs.flatMap mbCells ++ rest)]) w.mbs.length ?_ ?_
  · exact ⟨0, by omega, by simp only [go_sem, Int.natCast_zero]; rfl⟩
  · rintro m _ ⟨i, hi, rfl⟩
    by_cases hil : i < w.mbs.length
    · have f1 : ((i : Int) < (w.mbs.length : Int)) = True := eq_true (by omega)
      obtain ⟨x, hx⟩ : ∃ x, w.mbs[i]? = some x := ⟨w.mbs[i], List.getElem?_eq_getElem hil⟩
      have hw := wrap_succ i (by omega)
      have hg := mb_get w.mbs i x rest hx
      have hld : aval.ld false 1 ((w.mbs.flatMap mbCells ++ rest).drop (i * 4 + 3)) = some (.sl .none 1 (x.src.map avU)) := (ld_drop _ _).trans hg
      have hK := K_Addr (x.src.map avU) (by simpa using h.l8 x (List.mem_of_getElem? hx))
      have hln : i * 4 + 3 + 1 ≤ (w.mbs.flatMap mbCells ++ rest).length := by rw [List.length_append, mb_len]; omega
      have hps := put_same hg
      simp only [go_sem, f1, decide_true, Int.toNat_natCast, Int.natCast_nonneg, Nat.zero_add, hld]
      refine callX_of hK ?_
      simp only [go_sem, f1, Int.toNat_natCast, Int.natCast_nonneg, Nat.zero_add, hln, hps, hw]
      exact ⟨m - 1, by omega, i + 1, by omega, rfl⟩
    · obtain rfl : i = w.mbs.length := by omega
      have f1 : ((w.mbs.length : Int) < (w.mbs.length : Int)) = False := eq_false (by omega)
      have hret : ∀ C, retM C 6 0 w.mbs.length cap true 4 (some (w.mbs.flatMap mbCells ++ rest)) = some (.sl .none 4 (w.mbs.map avMb)) := by
        intro C
        rw [retM_some (l := (w.mbs.flatMap mbCells ++ rest).take (w.mbs.length * 4)) 0 w.mbs.length cap true 4 _ ⟨by rw [List.length_append, mb_len]; omega, hcap, .inl rfl⟩ ?_, List.take_append_of_le_length (by rw [mb_len]; omega), List.take_of_length_le (by rw [mb_len]; omega)]
        · have := chunk_mb w.mbs []
          rw [List.append_nil] at this
          rw [this]
        · rw [List.drop_zero]
          refine mapO_id fun y hy => ?_
          rw [List.take_append_of_le_length (by rw [mb_len]; omega)] at hy
          obtain ⟨z, _, hz⟩ := List.mem_flatMap.1 (List.mem_of_mem_take hy)
          simp only [mbCells, List.mem_cons, List.not_mem_nil, or_false] at hz
          rcases hz with rfl | rfl | rfl | rfl <;> rfl
      simp only [go_sem, f1, decide_false, hret]
end Go.Proofs.YtelbgkknneljeaaGreatDoor.VL
end

