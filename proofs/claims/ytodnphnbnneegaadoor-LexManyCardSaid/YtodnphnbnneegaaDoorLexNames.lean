/- rivuletlaw5.LexNames: the walk. -/
import Derived.Test.YtodnphnbnneegaaDoorLex3
set_option linter.unusedVariables false
set_option linter.unusedSimpArgs false
set_option maxHeartbeats 8000000
namespace Go.Proofs.YtodnphnbnneegaaDoor.VL
open Go.RowKit Go.Proofs

theorem bytes_set (l : List Nat) (k x : Nat) (h : k < l.length) : (l.map avB).take k ++ [avB x] ++ (l.map avB).drop (k + 1) = (l.set k x).map avB := by
  rw [List.set_eq_take_append_cons_drop, if_pos h]
  simp [List.map_take, List.map_drop]
theorem bytes_zero (n : Nat) : (List.replicate n [AV.lit (.int .u8 0)]).flatten = (List.replicate n 0).map avB := by
  induction n with
  | zero => rfl
  | succ n ih => rw [List.replicate_succ, List.flatten_cons, ih]; rfl
theorem bytesA_nat (l : List Nat) : bytesA (l.map avB) = some (l.map UInt8.ofNat) := by
  induction l with
  | nil => rfl
  | cons b l ih => simp only [List.map_cons, avB, bytesA] at ih ⊢; rw [ih]; simp

/-- The first letters, so many of them laid. -/
def namL (n k : Nat) : List Nat := (List.range n).map fun i => if i < k then 97 + i else 0
theorem namL_len (n k : Nat) : (namL n k).length = n := by simp [namL]
theorem namL_0 (n : Nat) : List.replicate n 0 = namL n 0 := by
  apply List.ext_getElem?
  intro i
  by_cases h : i < n
  · simp [namL, List.getElem?_replicate, List.getElem?_range, h]
  · simp [namL, List.getElem?_replicate, h]
theorem namL_set (n k : Nat) (h : k < n) : (namL n k).set k (97 + k) = namL n (k + 1) := by
  apply List.ext_getElem
  · simp [namL]
  · intro i h1 h2
    rw [List.getElem_set]
    simp only [namL, List.getElem_map, List.getElem_range]
    by_cases e : k = i
    · subst e; simp
    · rw [if_neg e]
      by_cases e2 : i < k
      · rw [if_pos e2, if_pos (by omega)]
      · rw [if_neg e2, if_neg (by omega)]

theorem ofNat_toNat (x : Nat) (h : x < 256) : (UInt8.ofNat x).toNat = x := by simp; omega

theorem nameOK_set (n at' c : Nat) (hn : n < 20) (hat : at' < n) (hc : c < 256) :
    nameOK (((namL n n).set at' c).map UInt8.ofNat) = (decide (n ≤ 12) && (letterN c || (decide (0 < at') && ((decide (48 ≤ c) && decide (c ≤ 57)) || c == 45)))) := by
  have hget : ∀ i, i < n → (((namL n n).set at' c).map UInt8.ofNat)[i]? = some (UInt8.ofNat (if at' = i then c else 97 + i)) := by
    intro i hi
    rw [List.getElem?_map, List.getElem?_set]
    have hl : (namL n n).length = n := namL_len n n
    by_cases e : at' = i
    · rw [if_pos e, hl, if_pos (by omega), if_pos e]; rfl
    · rw [if_neg e, if_neg e]
      have : (namL n n)[i]? = some (97 + i) := by simp [namL, List.getElem?_range hi, hi]
      rw [this]; rfl
  have hlen : (((namL n n).set at' c).map UInt8.ofNat).length = n := by simp [namL_len]
  have hall : ((((namL n n).set at' c).map UInt8.ofNat).all fun b => signN b.toNat) = signN c := by
    cases hs : signN c
    · rw [List.all_eq_false]
      refine ⟨UInt8.ofNat c, List.mem_of_getElem? (by rw [hget at' hat, if_pos rfl]), ?_⟩
      rw [ofNat_toNat c hc, hs]
      simp
    · rw [List.all_eq_true]
      intro b hb
      obtain ⟨i, hi⟩ := List.getElem?_of_mem hb
      have hin : i < n := by
        have := (List.getElem?_eq_some_iff.1 hi).1
        omega
      rw [hget i hin] at hi
      obtain rfl := Option.some.inj hi
      split
      · rw [ofNat_toNat c hc]; exact hs
      · rw [ofNat_toNat _ (by omega)]
        have : letterN (97 + i) = true := by simp [letterN]; omega
        simp [signN, this]
  have hfst : hd0 (((namL n n).set at' c).map UInt8.ofNat)[0]? = (if at' = 0 then letterN c else true) := by
    rw [hget 0 (by omega), hd0]
    split
    · rw [ofNat_toNat c hc]
    · rw [ofNat_toNat _ (by omega)]; rfl
  unfold nameOK
  rw [hall, hfst, hlen]
  have g1 : decide (1 ≤ n) = true := by simp only [decide_eq_true_eq]; omega
  rw [g1, Bool.true_and]
  congr 1
  by_cases e : at' = 0
  · rw [if_pos e, e]
    simp [signN]
    cases letterN c <;> simp
  · rw [if_neg e]
    have : decide (0 < at') = true := by simp only [decide_eq_true_eq]; omega
    rw [this]
    simp only [signN, Bool.true_and]
    cases letterN c <;> simp [Bool.or_comm]

theorem is_name : AC Tryd.prog f_rivuletsee_Is [errN false, .lit (.int .i64 109)] (.lit (.bool true)) :=
  C_Is (some 1) (fun i hi => by injection hi with hi; subst hi; decide) 109

theorem AC_LexNames (n0 m0 : Int) (c : Nat) (hc : c < 256) : AC Tryd.prog f_rivuletlaw5_LexNames [.lit (.int .i64 n0), .lit (.int .i64 m0), avB c] (.lit (.bool true)) := by
  refine ac_rivuletlaw5_LexNames ?_ (Nat.le_add_left 3 _)
  simp only [go_sem, Nat.reduceAdd, Nat.reduceLT, Nat.reduceEqDiff, Nat.reduceBEq, Nat.reduceLeDiff, Nat.reduceSub, Int.reduceToNat, reduceCtorEq, ↓reduceIte, c_rivuletlaw5_LexNames]
  refine callX_of C_first5 ?_
  simp only [go_sem, Nat.reduceAdd, Nat.reduceLT, Nat.reduceEqDiff, Nat.reduceBEq, Nat.reduceLeDiff, Nat.reduceSub, Int.reduceToNat, reduceCtorEq, ↓reduceIte]
  refine callX_of (C_Number n0 20 (by decide) (by decide)) ?_
  have e0 := Int.emod_nonneg n0 (show (20 : Int) ≠ 0 by decide)
  have e1 := Int.emod_lt_of_pos n0 (show (0 : Int) < 20 by decide)
  obtain ⟨n, hn, hn20⟩ : ∃ n : Nat, n0 % 20 = (n : Int) ∧ n < 20 := ⟨(n0 % 20).toNat, by omega, by omega⟩
  have k0 : (0 ≤ (n : Int)) = True := eq_true (by omega)
  have k1 : ((n : Int) ≤ 4294967296) = True := eq_true (by omega)
  simp only [go_sem, Nat.reduceAdd, Nat.reduceLT, Nat.reduceEqDiff, Nat.reduceBEq, Nat.reduceLeDiff, Nat.reduceSub, Int.reduceToNat, reduceCtorEq, ↓reduceIte, hn, k0, k1, Nat.reduceLeDiff, Int.toNat_natCast, bytes_zero, namL_0]
  refine aw_loop (fun m E => ∃ k : Nat, k + m = n ∧ E = mkE [(0, .lit (.int .i64 (n : Nat))), (1, .lit (.int .i64 m0)), (2, avB c), (7, .lit (.bool true)), (8, .ml 18 0 n n false 1), (9, .lit (.int .i64 (k : Nat)))] [(18, (namL n k).map avB)]) n ?_ ?_
  · exact ⟨0, by omega, by simp only [go_sem, Nat.reduceAdd, Nat.reduceLT, Nat.reduceEqDiff, Nat.reduceBEq, Nat.reduceLeDiff, Nat.reduceSub, Int.reduceToNat, reduceCtorEq, ↓reduceIte]; rfl⟩
  · rintro m _ ⟨k, hk, rfl⟩
    have hlen : ((namL n k).map avB).length = n := by simp [namL_len]
    by_cases hkn : k < n
    · have f1 : ((k : Int) < (n : Int)) = True := eq_true (by omega)
      have f2 : (0 ≤ (k : Int)) = True := eq_true (by omega)
      have w0 : (k : Int).tmod 26 = (k : Int) := Int.tmod_eq_of_lt (by omega) (by omega)
      have w1 : IntKind.u8.wrap (k : Int) = (k : Int) := by rw [IntKind.wrap_u8]; omega
      have w2 : IntKind.u8.wrap (97 + (k : Int)) = ((97 + k : Nat) : Int) := by rw [IntKind.wrap_u8]; omega
      have w3 := wrap_succ k (by omega)
      have hset := bytes_set (namL n k) k (97 + k) (by rw [namL_len]; exact hkn)
      rw [namL_set n k hkn] at hset
      have h1 : k + 1 ≤ n := hkn
      have n26 : ((26 : Int) == 0) = false := by decide
      simp only [go_sem, Nat.reduceAdd, Nat.reduceLT, Nat.reduceEqDiff, Nat.reduceBEq, Nat.reduceLeDiff, Nat.reduceSub, Int.reduceToNat, reduceCtorEq, ↓reduceIte, f1, f2, decide_true, n26, w0, w1, w2, w3, Nat.zero_add, Nat.mul_one, Int.toNat_natCast, hlen, h1]
      refine ⟨m - 1, by omega, k + 1, by omega, ?_⟩
      rw [← hset]
      rfl
    · have f1 : ((k : Int) < (n : Int)) = False := eq_false (by omega)
      obtain rfl : n = k := by omega
      simp only [go_sem, Nat.reduceAdd, Nat.reduceLT, Nat.reduceEqDiff, Nat.reduceBEq, Nat.reduceLeDiff, Nat.reduceSub, Int.reduceToNat, reduceCtorEq, ↓reduceIte, f1, decide_false]
      have hmiss := C_Name ⟨#[]⟩ (by decide)
      have hisn := is_name
      simp only [errN, Bool.false_eq_true, if_false] at hisn
      by_cases hn0 : n = 0
      · subst hn0
        have e0 : nameOK (⟨#[]⟩ : ByteArray).data.toList = false := by decide
        rw [e0] at hmiss
        simp only [errN, avStr, Bool.false_eq_true, if_false] at hmiss
        have eb : bytesA [] = some [] := rfl
        simp only [go_sem, Nat.reduceAdd, Nat.reduceLT, Nat.reduceEqDiff, Nat.reduceBEq, Nat.reduceLeDiff, Nat.reduceSub, Int.reduceToNat, reduceCtorEq, ↓reduceIte, c0, avB, decide_true, decide_false, Int.lt_irrefl, hlen, Nat.zero_add, List.drop_zero, Nat.mul_one, Nat.le_refl, Int.toNat_natCast, eb]
        refine callX_of hmiss ?_
        simp only [go_sem, Nat.reduceAdd, Nat.reduceLT, Nat.reduceEqDiff, Nat.reduceBEq, Nat.reduceLeDiff, Nat.reduceSub, Int.reduceToNat, reduceCtorEq, ↓reduceIte, avB, decide_true, decide_false, Int.lt_irrefl, hlen, Nat.zero_add, List.drop_zero, Nat.mul_one, Nat.le_refl, Int.toNat_natCast, eb]
        refine callX_of hmiss ?_
        simp only [go_sem, Nat.reduceAdd, Nat.reduceLT, Nat.reduceEqDiff, Nat.reduceBEq, Nat.reduceLeDiff, Nat.reduceSub, Int.reduceToNat, reduceCtorEq, ↓reduceIte, avB, decide_true, decide_false, Int.lt_irrefl, hlen, Nat.zero_add, List.drop_zero, Nat.mul_one, Nat.le_refl, Int.toNat_natCast, eb]
        refine callX_of hisn ?_
        simp only [go_sem, Nat.reduceAdd, Nat.reduceLT, Nat.reduceEqDiff, Nat.reduceBEq, Nat.reduceLeDiff, Nat.reduceSub, Int.reduceToNat, reduceCtorEq, ↓reduceIte, avB, decide_true, decide_false, Int.lt_irrefl, hlen, Nat.zero_add, List.drop_zero, Nat.mul_one, Nat.le_refl, Int.toNat_natCast, eb]
      have f3 : (0 < (n : Int)) = True := eq_true (by omega)
      have e2 := Int.emod_nonneg m0 (show (n : Int) ≠ 0 by omega)
      have e3 := Int.emod_lt_of_pos m0 (show (0 : Int) < (n : Int) by omega)
      obtain ⟨p, hp, hpn⟩ : ∃ p : Nat, m0 % (n : Int) = (p : Int) ∧ p < n := ⟨(m0 % (n : Int)).toNat, by omega, by omega⟩
      have f4 : (0 ≤ (p : Int)) = True := eq_true (by omega)
      have f5 : ((p : Int) < (n : Int)) = True := eq_true (by omega)
      have h1 : p + 1 ≤ n := hpn
      have hset := bytes_set (namL n n) p c (by rw [namL_len]; exact hpn)
      have hl2 : (((namL n n).set p c).map avB).length = n := by simp [namL_len]
      have hnm := C_Name ⟨(((namL n n).set p c).map UInt8.ofNat).toArray⟩ (by
        rw [Lib.size_eq]
        simp [namL_len]
        omega)
      rw [show (⟨(((namL n n).set p c).map UInt8.ofNat).toArray⟩ : ByteArray).data.toList = ((namL n n).set p c).map UInt8.ofNat by simp, nameOK_set n p c hn20 hpn hc] at hnm
      have eb := bytesA_nat ((namL n n).set p c)
      have hset' : List.take p (List.map avB (namL n n)) ++ [AV.lit (.int .u8 (c : Nat))] ++ List.drop (p + 1) (List.map avB (namL n n)) = ((namL n n).set p c).map avB := hset
      have eb' : bytesA (List.take n (((namL n n).set p c).map avB)) = some (((namL n n).set p c).map UInt8.ofNat) := by
        rw [List.take_of_length_le (by omega), eb]
      by_cases hT : n ≤ 12
      · have gT : ((n : Int) ≤ 12) = True := eq_true (by omega)
        by_cases hA : 97 ≤ c
        · have gA : ((97 : Int) ≤ (c : Int)) = True := eq_true (by omega)
          by_cases hB : c ≤ 122
          · have gB : ((c : Int) ≤ 122) = True := eq_true (by omega)
            have hr : (decide (n ≤ 12) && (letterN c || (decide (0 < p) && ((decide (48 ≤ c) && decide (c ≤ 57)) || c == 45)))) = true := by simp [letterN, hT, hA, hB]
            rw [hr] at hnm
            simp only [errN, avStr, if_true] at hnm
            simp only [go_sem, Nat.reduceAdd, Nat.reduceLT, Nat.reduceEqDiff, Nat.reduceBEq, Nat.reduceLeDiff, Nat.reduceSub, Int.reduceToNat, reduceCtorEq, ↓reduceIte, avB, decide_true, decide_false, Int.lt_irrefl, hlen, hl2, Nat.zero_add, List.drop_zero, Nat.mul_one, Nat.le_refl, Int.toNat_natCast, List.take_of_length_le, f3, f4, f5, h1, hp, gT, gA, gB]
            refine callX_of (C_Number m0 (n : Int) (by omega) (by omega)) ?_
            simp only [go_sem, Nat.reduceAdd, Nat.reduceLT, Nat.reduceEqDiff, Nat.reduceBEq, Nat.reduceLeDiff, Nat.reduceSub, Int.reduceToNat, reduceCtorEq, ↓reduceIte, avB, decide_true, decide_false, Int.lt_irrefl, hlen, hl2, Nat.zero_add, List.drop_zero, Nat.mul_one, Nat.le_refl, Int.toNat_natCast, List.take_of_length_le, f3, f4, f5, h1, hp, gT, gA, gB]
            rw [hset']
            simp only [go_sem, Nat.reduceAdd, Nat.reduceLT, Nat.reduceEqDiff, Nat.reduceBEq, Nat.reduceLeDiff, Nat.reduceSub, Int.reduceToNat, reduceCtorEq, ↓reduceIte, avB, decide_true, decide_false, Int.lt_irrefl, hlen, hl2, Nat.zero_add, List.drop_zero, Nat.mul_one, Nat.le_refl, Int.toNat_natCast, List.take_of_length_le, f3, f4, f5, h1, hp, gT, gA, gB, eb, eb']
            refine callX_of hnm ?_
            simp only [go_sem, Nat.reduceAdd, Nat.reduceLT, Nat.reduceEqDiff, Nat.reduceBEq, Nat.reduceLeDiff, Nat.reduceSub, Int.reduceToNat, reduceCtorEq, ↓reduceIte, avB, decide_true, decide_false, Int.lt_irrefl, hlen, hl2, Nat.zero_add, List.drop_zero, Nat.mul_one, Nat.le_refl, Int.toNat_natCast, List.take_of_length_le, f3, f4, f5, h1, hp, gT, gA, gB, eb, eb']
          · have gB : ((c : Int) ≤ 122) = False := eq_false (by omega)
            by_cases hZ : 0 < p
            · have gZ : ((0 : Int) < (p : Int)) = True := eq_true (by omega)
              by_cases h48 : 48 ≤ c
              · have g48 : ((48 : Int) ≤ (c : Int)) = True := eq_true (by omega)
                by_cases h57 : c ≤ 57
                · have g57 : ((c : Int) ≤ 57) = True := eq_true (by omega)
                  have hr : (decide (n ≤ 12) && (letterN c || (decide (0 < p) && ((decide (48 ≤ c) && decide (c ≤ 57)) || c == 45)))) = true := by simp [letterN, hT, hA, hB, hZ, h48, h57]
                  rw [hr] at hnm
                  simp only [errN, avStr, if_true] at hnm
                  simp only [go_sem, Nat.reduceAdd, Nat.reduceLT, Nat.reduceEqDiff, Nat.reduceBEq, Nat.reduceLeDiff, Nat.reduceSub, Int.reduceToNat, reduceCtorEq, ↓reduceIte, avB, decide_true, decide_false, Int.lt_irrefl, hlen, hl2, Nat.zero_add, List.drop_zero, Nat.mul_one, Nat.le_refl, Int.toNat_natCast, List.take_of_length_le, f3, f4, f5, h1, hp, gT, gA, gB, gZ, g48, g57]
                  refine callX_of (C_Number m0 (n : Int) (by omega) (by omega)) ?_
                  simp only [go_sem, Nat.reduceAdd, Nat.reduceLT, Nat.reduceEqDiff, Nat.reduceBEq, Nat.reduceLeDiff, Nat.reduceSub, Int.reduceToNat, reduceCtorEq, ↓reduceIte, avB, decide_true, decide_false, Int.lt_irrefl, hlen, hl2, Nat.zero_add, List.drop_zero, Nat.mul_one, Nat.le_refl, Int.toNat_natCast, List.take_of_length_le, f3, f4, f5, h1, hp, gT, gA, gB, gZ, g48, g57]
                  rw [hset']
                  simp only [go_sem, Nat.reduceAdd, Nat.reduceLT, Nat.reduceEqDiff, Nat.reduceBEq, Nat.reduceLeDiff, Nat.reduceSub, Int.reduceToNat, reduceCtorEq, ↓reduceIte, avB, decide_true, decide_false, Int.lt_irrefl, hlen, hl2, Nat.zero_add, List.drop_zero, Nat.mul_one, Nat.le_refl, Int.toNat_natCast, List.take_of_length_le, f3, f4, f5, h1, hp, gT, gA, gB, gZ, g48, g57, eb, eb']
                  refine callX_of hnm ?_
                  simp only [go_sem, Nat.reduceAdd, Nat.reduceLT, Nat.reduceEqDiff, Nat.reduceBEq, Nat.reduceLeDiff, Nat.reduceSub, Int.reduceToNat, reduceCtorEq, ↓reduceIte, avB, decide_true, decide_false, Int.lt_irrefl, hlen, hl2, Nat.zero_add, List.drop_zero, Nat.mul_one, Nat.le_refl, Int.toNat_natCast, List.take_of_length_le, f3, f4, f5, h1, hp, gT, gA, gB, gZ, g48, g57, eb, eb']
                · have g57 : ((c : Int) ≤ 57) = False := eq_false (by omega)
                  by_cases h45 : c = 45
                  · have g45 : ((c : Int) == 45) = true := by rw [h45]; rfl
                    have hr : (decide (n ≤ 12) && (letterN c || (decide (0 < p) && ((decide (48 ≤ c) && decide (c ≤ 57)) || c == 45)))) = true := by simp [letterN, hT, hA, hB, hZ, h48, h57, h45]
                    rw [hr] at hnm
                    simp only [errN, avStr, if_true] at hnm
                    simp only [go_sem, Nat.reduceAdd, Nat.reduceLT, Nat.reduceEqDiff, Nat.reduceBEq, Nat.reduceLeDiff, Nat.reduceSub, Int.reduceToNat, reduceCtorEq, ↓reduceIte, avB, decide_true, decide_false, Int.lt_irrefl, hlen, hl2, Nat.zero_add, List.drop_zero, Nat.mul_one, Nat.le_refl, Int.toNat_natCast, List.take_of_length_le, f3, f4, f5, h1, hp, gT, gA, gB, gZ, g48, g57, g45]
                    refine callX_of (C_Number m0 (n : Int) (by omega) (by omega)) ?_
                    simp only [go_sem, Nat.reduceAdd, Nat.reduceLT, Nat.reduceEqDiff, Nat.reduceBEq, Nat.reduceLeDiff, Nat.reduceSub, Int.reduceToNat, reduceCtorEq, ↓reduceIte, avB, decide_true, decide_false, Int.lt_irrefl, hlen, hl2, Nat.zero_add, List.drop_zero, Nat.mul_one, Nat.le_refl, Int.toNat_natCast, List.take_of_length_le, f3, f4, f5, h1, hp, gT, gA, gB, gZ, g48, g57, g45]
                    rw [hset']
                    simp only [go_sem, Nat.reduceAdd, Nat.reduceLT, Nat.reduceEqDiff, Nat.reduceBEq, Nat.reduceLeDiff, Nat.reduceSub, Int.reduceToNat, reduceCtorEq, ↓reduceIte, avB, decide_true, decide_false, Int.lt_irrefl, hlen, hl2, Nat.zero_add, List.drop_zero, Nat.mul_one, Nat.le_refl, Int.toNat_natCast, List.take_of_length_le, f3, f4, f5, h1, hp, gT, gA, gB, gZ, g48, g57, g45, eb, eb']
                    refine callX_of hnm ?_
                    simp only [go_sem, Nat.reduceAdd, Nat.reduceLT, Nat.reduceEqDiff, Nat.reduceBEq, Nat.reduceLeDiff, Nat.reduceSub, Int.reduceToNat, reduceCtorEq, ↓reduceIte, avB, decide_true, decide_false, Int.lt_irrefl, hlen, hl2, Nat.zero_add, List.drop_zero, Nat.mul_one, Nat.le_refl, Int.toNat_natCast, List.take_of_length_le, f3, f4, f5, h1, hp, gT, gA, gB, gZ, g48, g57, g45, eb, eb']
                  · have g45 : ((c : Int) == 45) = false := by simp only [beq_eq_false_iff_ne, ne_eq]; omega
                    have hr : (decide (n ≤ 12) && (letterN c || (decide (0 < p) && ((decide (48 ≤ c) && decide (c ≤ 57)) || c == 45)))) = false := by simp [letterN, hT, hA, hB, hZ, h48, h57, h45]
                    rw [hr] at hnm
                    simp only [errN, avStr, Bool.false_eq_true, if_false] at hnm
                    simp only [go_sem, Nat.reduceAdd, Nat.reduceLT, Nat.reduceEqDiff, Nat.reduceBEq, Nat.reduceLeDiff, Nat.reduceSub, Int.reduceToNat, reduceCtorEq, ↓reduceIte, avB, decide_true, decide_false, Int.lt_irrefl, hlen, hl2, Nat.zero_add, List.drop_zero, Nat.mul_one, Nat.le_refl, Int.toNat_natCast, List.take_of_length_le, f3, f4, f5, h1, hp, gT, gA, gB, gZ, g48, g57, g45]
                    refine callX_of (C_Number m0 (n : Int) (by omega) (by omega)) ?_
                    simp only [go_sem, Nat.reduceAdd, Nat.reduceLT, Nat.reduceEqDiff, Nat.reduceBEq, Nat.reduceLeDiff, Nat.reduceSub, Int.reduceToNat, reduceCtorEq, ↓reduceIte, avB, decide_true, decide_false, Int.lt_irrefl, hlen, hl2, Nat.zero_add, List.drop_zero, Nat.mul_one, Nat.le_refl, Int.toNat_natCast, List.take_of_length_le, f3, f4, f5, h1, hp, gT, gA, gB, gZ, g48, g57, g45]
                    rw [hset']
                    simp only [go_sem, Nat.reduceAdd, Nat.reduceLT, Nat.reduceEqDiff, Nat.reduceBEq, Nat.reduceLeDiff, Nat.reduceSub, Int.reduceToNat, reduceCtorEq, ↓reduceIte, avB, decide_true, decide_false, Int.lt_irrefl, hlen, hl2, Nat.zero_add, List.drop_zero, Nat.mul_one, Nat.le_refl, Int.toNat_natCast, List.take_of_length_le, f3, f4, f5, h1, hp, gT, gA, gB, gZ, g48, g57, g45, eb, eb']
                    refine callX_of hnm ?_
                    simp only [go_sem, Nat.reduceAdd, Nat.reduceLT, Nat.reduceEqDiff, Nat.reduceBEq, Nat.reduceLeDiff, Nat.reduceSub, Int.reduceToNat, reduceCtorEq, ↓reduceIte, avB, decide_true, decide_false, Int.lt_irrefl, hlen, hl2, Nat.zero_add, List.drop_zero, Nat.mul_one, Nat.le_refl, Int.toNat_natCast, List.take_of_length_le, f3, f4, f5, h1, hp, gT, gA, gB, gZ, g48, g57, g45, eb, eb']
                    refine callX_of hnm ?_
                    simp only [go_sem, Nat.reduceAdd, Nat.reduceLT, Nat.reduceEqDiff, Nat.reduceBEq, Nat.reduceLeDiff, Nat.reduceSub, Int.reduceToNat, reduceCtorEq, ↓reduceIte, avB, decide_true, decide_false, Int.lt_irrefl, hlen, hl2, Nat.zero_add, List.drop_zero, Nat.mul_one, Nat.le_refl, Int.toNat_natCast, List.take_of_length_le, f3, f4, f5, h1, hp, gT, gA, gB, gZ, g48, g57, g45, eb, eb']
                    refine callX_of hisn ?_
                    simp only [go_sem, Nat.reduceAdd, Nat.reduceLT, Nat.reduceEqDiff, Nat.reduceBEq, Nat.reduceLeDiff, Nat.reduceSub, Int.reduceToNat, reduceCtorEq, ↓reduceIte, avB, decide_true, decide_false, Int.lt_irrefl, hlen, hl2, Nat.zero_add, List.drop_zero, Nat.mul_one, Nat.le_refl, Int.toNat_natCast, List.take_of_length_le, f3, f4, f5, h1, hp, gT, gA, gB, gZ, g48, g57, g45]
              · have g48 : ((48 : Int) ≤ (c : Int)) = False := eq_false (by omega)
                by_cases h45 : c = 45
                · have g45 : ((c : Int) == 45) = true := by rw [h45]; rfl
                  have hr : (decide (n ≤ 12) && (letterN c || (decide (0 < p) && ((decide (48 ≤ c) && decide (c ≤ 57)) || c == 45)))) = true := by simp [letterN, hT, hA, hB, hZ, h48, h45]
                  rw [hr] at hnm
                  simp only [errN, avStr, if_true] at hnm
                  simp only [go_sem, Nat.reduceAdd, Nat.reduceLT, Nat.reduceEqDiff, Nat.reduceBEq, Nat.reduceLeDiff, Nat.reduceSub, Int.reduceToNat, reduceCtorEq, ↓reduceIte, avB, decide_true, decide_false, Int.lt_irrefl, hlen, hl2, Nat.zero_add, List.drop_zero, Nat.mul_one, Nat.le_refl, Int.toNat_natCast, List.take_of_length_le, f3, f4, f5, h1, hp, gT, gA, gB, gZ, g48, g45]
                  refine callX_of (C_Number m0 (n : Int) (by omega) (by omega)) ?_
                  simp only [go_sem, Nat.reduceAdd, Nat.reduceLT, Nat.reduceEqDiff, Nat.reduceBEq, Nat.reduceLeDiff, Nat.reduceSub, Int.reduceToNat, reduceCtorEq, ↓reduceIte, avB, decide_true, decide_false, Int.lt_irrefl, hlen, hl2, Nat.zero_add, List.drop_zero, Nat.mul_one, Nat.le_refl, Int.toNat_natCast, List.take_of_length_le, f3, f4, f5, h1, hp, gT, gA, gB, gZ, g48, g45]
                  rw [hset']
                  simp only [go_sem, Nat.reduceAdd, Nat.reduceLT, Nat.reduceEqDiff, Nat.reduceBEq, Nat.reduceLeDiff, Nat.reduceSub, Int.reduceToNat, reduceCtorEq, ↓reduceIte, avB, decide_true, decide_false, Int.lt_irrefl, hlen, hl2, Nat.zero_add, List.drop_zero, Nat.mul_one, Nat.le_refl, Int.toNat_natCast, List.take_of_length_le, f3, f4, f5, h1, hp, gT, gA, gB, gZ, g48, g45, eb, eb']
                  refine callX_of hnm ?_
                  simp only [go_sem, Nat.reduceAdd, Nat.reduceLT, Nat.reduceEqDiff, Nat.reduceBEq, Nat.reduceLeDiff, Nat.reduceSub, Int.reduceToNat, reduceCtorEq, ↓reduceIte, avB, decide_true, decide_false, Int.lt_irrefl, hlen, hl2, Nat.zero_add, List.drop_zero, Nat.mul_one, Nat.le_refl, Int.toNat_natCast, List.take_of_length_le, f3, f4, f5, h1, hp, gT, gA, gB, gZ, g48, g45, eb, eb']
                · have g45 : ((c : Int) == 45) = false := by simp only [beq_eq_false_iff_ne, ne_eq]; omega
                  have hr : (decide (n ≤ 12) && (letterN c || (decide (0 < p) && ((decide (48 ≤ c) && decide (c ≤ 57)) || c == 45)))) = false := by simp [letterN, hT, hA, hB, hZ, h48, h45]
                  rw [hr] at hnm
                  simp only [errN, avStr, Bool.false_eq_true, if_false] at hnm
                  simp only [go_sem, Nat.reduceAdd, Nat.reduceLT, Nat.reduceEqDiff, Nat.reduceBEq, Nat.reduceLeDiff, Nat.reduceSub, Int.reduceToNat, reduceCtorEq, ↓reduceIte, avB, decide_true, decide_false, Int.lt_irrefl, hlen, hl2, Nat.zero_add, List.drop_zero, Nat.mul_one, Nat.le_refl, Int.toNat_natCast, List.take_of_length_le, f3, f4, f5, h1, hp, gT, gA, gB, gZ, g48, g45]
                  refine callX_of (C_Number m0 (n : Int) (by omega) (by omega)) ?_
                  simp only [go_sem, Nat.reduceAdd, Nat.reduceLT, Nat.reduceEqDiff, Nat.reduceBEq, Nat.reduceLeDiff, Nat.reduceSub, Int.reduceToNat, reduceCtorEq, ↓reduceIte, avB, decide_true, decide_false, Int.lt_irrefl, hlen, hl2, Nat.zero_add, List.drop_zero, Nat.mul_one, Nat.le_refl, Int.toNat_natCast, List.take_of_length_le, f3, f4, f5, h1, hp, gT, gA, gB, gZ, g48, g45]
                  rw [hset']
                  simp only [go_sem, Nat.reduceAdd, Nat.reduceLT, Nat.reduceEqDiff, Nat.reduceBEq, Nat.reduceLeDiff, Nat.reduceSub, Int.reduceToNat, reduceCtorEq, ↓reduceIte, avB, decide_true, decide_false, Int.lt_irrefl, hlen, hl2, Nat.zero_add, List.drop_zero, Nat.mul_one, Nat.le_refl, Int.toNat_natCast, List.take_of_length_le, f3, f4, f5, h1, hp, gT, gA, gB, gZ, g48, g45, eb, eb']
                  refine callX_of hnm ?_
                  simp only [go_sem, Nat.reduceAdd, Nat.reduceLT, Nat.reduceEqDiff, Nat.reduceBEq, Nat.reduceLeDiff, Nat.reduceSub, Int.reduceToNat, reduceCtorEq, ↓reduceIte, avB, decide_true, decide_false, Int.lt_irrefl, hlen, hl2, Nat.zero_add, List.drop_zero, Nat.mul_one, Nat.le_refl, Int.toNat_natCast, List.take_of_length_le, f3, f4, f5, h1, hp, gT, gA, gB, gZ, g48, g45, eb, eb']
                  refine callX_of hnm ?_
                  simp only [go_sem, Nat.reduceAdd, Nat.reduceLT, Nat.reduceEqDiff, Nat.reduceBEq, Nat.reduceLeDiff, Nat.reduceSub, Int.reduceToNat, reduceCtorEq, ↓reduceIte, avB, decide_true, decide_false, Int.lt_irrefl, hlen, hl2, Nat.zero_add, List.drop_zero, Nat.mul_one, Nat.le_refl, Int.toNat_natCast, List.take_of_length_le, f3, f4, f5, h1, hp, gT, gA, gB, gZ, g48, g45, eb, eb']
                  refine callX_of hisn ?_
                  simp only [go_sem, Nat.reduceAdd, Nat.reduceLT, Nat.reduceEqDiff, Nat.reduceBEq, Nat.reduceLeDiff, Nat.reduceSub, Int.reduceToNat, reduceCtorEq, ↓reduceIte, avB, decide_true, decide_false, Int.lt_irrefl, hlen, hl2, Nat.zero_add, List.drop_zero, Nat.mul_one, Nat.le_refl, Int.toNat_natCast, List.take_of_length_le, f3, f4, f5, h1, hp, gT, gA, gB, gZ, g48, g45]
            · have gZ : ((0 : Int) < (p : Int)) = False := eq_false (by omega)
              have hr : (decide (n ≤ 12) && (letterN c || (decide (0 < p) && ((decide (48 ≤ c) && decide (c ≤ 57)) || c == 45)))) = false := by simp [letterN, hT, hA, hB, hZ]
              rw [hr] at hnm
              simp only [errN, avStr, Bool.false_eq_true, if_false] at hnm
              simp only [go_sem, Nat.reduceAdd, Nat.reduceLT, Nat.reduceEqDiff, Nat.reduceBEq, Nat.reduceLeDiff, Nat.reduceSub, Int.reduceToNat, reduceCtorEq, ↓reduceIte, avB, decide_true, decide_false, Int.lt_irrefl, hlen, hl2, Nat.zero_add, List.drop_zero, Nat.mul_one, Nat.le_refl, Int.toNat_natCast, List.take_of_length_le, f3, f4, f5, h1, hp, gT, gA, gB, gZ]
              refine callX_of (C_Number m0 (n : Int) (by omega) (by omega)) ?_
              simp only [go_sem, Nat.reduceAdd, Nat.reduceLT, Nat.reduceEqDiff, Nat.reduceBEq, Nat.reduceLeDiff, Nat.reduceSub, Int.reduceToNat, reduceCtorEq, ↓reduceIte, avB, decide_true, decide_false, Int.lt_irrefl, hlen, hl2, Nat.zero_add, List.drop_zero, Nat.mul_one, Nat.le_refl, Int.toNat_natCast, List.take_of_length_le, f3, f4, f5, h1, hp, gT, gA, gB, gZ]
              rw [hset']
              simp only [go_sem, Nat.reduceAdd, Nat.reduceLT, Nat.reduceEqDiff, Nat.reduceBEq, Nat.reduceLeDiff, Nat.reduceSub, Int.reduceToNat, reduceCtorEq, ↓reduceIte, avB, decide_true, decide_false, Int.lt_irrefl, hlen, hl2, Nat.zero_add, List.drop_zero, Nat.mul_one, Nat.le_refl, Int.toNat_natCast, List.take_of_length_le, f3, f4, f5, h1, hp, gT, gA, gB, gZ, eb, eb']
              refine callX_of hnm ?_
              simp only [go_sem, Nat.reduceAdd, Nat.reduceLT, Nat.reduceEqDiff, Nat.reduceBEq, Nat.reduceLeDiff, Nat.reduceSub, Int.reduceToNat, reduceCtorEq, ↓reduceIte, avB, decide_true, decide_false, Int.lt_irrefl, hlen, hl2, Nat.zero_add, List.drop_zero, Nat.mul_one, Nat.le_refl, Int.toNat_natCast, List.take_of_length_le, f3, f4, f5, h1, hp, gT, gA, gB, gZ, eb, eb']
              refine callX_of hnm ?_
              simp only [go_sem, Nat.reduceAdd, Nat.reduceLT, Nat.reduceEqDiff, Nat.reduceBEq, Nat.reduceLeDiff, Nat.reduceSub, Int.reduceToNat, reduceCtorEq, ↓reduceIte, avB, decide_true, decide_false, Int.lt_irrefl, hlen, hl2, Nat.zero_add, List.drop_zero, Nat.mul_one, Nat.le_refl, Int.toNat_natCast, List.take_of_length_le, f3, f4, f5, h1, hp, gT, gA, gB, gZ, eb, eb']
              refine callX_of hisn ?_
              simp only [go_sem, Nat.reduceAdd, Nat.reduceLT, Nat.reduceEqDiff, Nat.reduceBEq, Nat.reduceLeDiff, Nat.reduceSub, Int.reduceToNat, reduceCtorEq, ↓reduceIte, avB, decide_true, decide_false, Int.lt_irrefl, hlen, hl2, Nat.zero_add, List.drop_zero, Nat.mul_one, Nat.le_refl, Int.toNat_natCast, List.take_of_length_le, f3, f4, f5, h1, hp, gT, gA, gB, gZ]
        · have gA : ((97 : Int) ≤ (c : Int)) = False := eq_false (by omega)
          by_cases hZ : 0 < p
          · have gZ : ((0 : Int) < (p : Int)) = True := eq_true (by omega)
            by_cases h48 : 48 ≤ c
            · have g48 : ((48 : Int) ≤ (c : Int)) = True := eq_true (by omega)
              by_cases h57 : c ≤ 57
              · have g57 : ((c : Int) ≤ 57) = True := eq_true (by omega)
                have hr : (decide (n ≤ 12) && (letterN c || (decide (0 < p) && ((decide (48 ≤ c) && decide (c ≤ 57)) || c == 45)))) = true := by simp [letterN, hT, hA, hZ, h48, h57]
                rw [hr] at hnm
                simp only [errN, avStr, if_true] at hnm
                simp only [go_sem, Nat.reduceAdd, Nat.reduceLT, Nat.reduceEqDiff, Nat.reduceBEq, Nat.reduceLeDiff, Nat.reduceSub, Int.reduceToNat, reduceCtorEq, ↓reduceIte, avB, decide_true, decide_false, Int.lt_irrefl, hlen, hl2, Nat.zero_add, List.drop_zero, Nat.mul_one, Nat.le_refl, Int.toNat_natCast, List.take_of_length_le, f3, f4, f5, h1, hp, gT, gA, gZ, g48, g57]
                refine callX_of (C_Number m0 (n : Int) (by omega) (by omega)) ?_
                simp only [go_sem, Nat.reduceAdd, Nat.reduceLT, Nat.reduceEqDiff, Nat.reduceBEq, Nat.reduceLeDiff, Nat.reduceSub, Int.reduceToNat, reduceCtorEq, ↓reduceIte, avB, decide_true, decide_false, Int.lt_irrefl, hlen, hl2, Nat.zero_add, List.drop_zero, Nat.mul_one, Nat.le_refl, Int.toNat_natCast, List.take_of_length_le, f3, f4, f5, h1, hp, gT, gA, gZ, g48, g57]
                rw [hset']
                simp only [go_sem, Nat.reduceAdd, Nat.reduceLT, Nat.reduceEqDiff, Nat.reduceBEq, Nat.reduceLeDiff, Nat.reduceSub, Int.reduceToNat, reduceCtorEq, ↓reduceIte, avB, decide_true, decide_false, Int.lt_irrefl, hlen, hl2, Nat.zero_add, List.drop_zero, Nat.mul_one, Nat.le_refl, Int.toNat_natCast, List.take_of_length_le, f3, f4, f5, h1, hp, gT, gA, gZ, g48, g57, eb, eb']
                refine callX_of hnm ?_
                simp only [go_sem, Nat.reduceAdd, Nat.reduceLT, Nat.reduceEqDiff, Nat.reduceBEq, Nat.reduceLeDiff, Nat.reduceSub, Int.reduceToNat, reduceCtorEq, ↓reduceIte, avB, decide_true, decide_false, Int.lt_irrefl, hlen, hl2, Nat.zero_add, List.drop_zero, Nat.mul_one, Nat.le_refl, Int.toNat_natCast, List.take_of_length_le, f3, f4, f5, h1, hp, gT, gA, gZ, g48, g57, eb, eb']
              · have g57 : ((c : Int) ≤ 57) = False := eq_false (by omega)
                by_cases h45 : c = 45
                · have g45 : ((c : Int) == 45) = true := by rw [h45]; rfl
                  have hr : (decide (n ≤ 12) && (letterN c || (decide (0 < p) && ((decide (48 ≤ c) && decide (c ≤ 57)) || c == 45)))) = true := by simp [letterN, hT, hA, hZ, h48, h57, h45]
                  rw [hr] at hnm
                  simp only [errN, avStr, if_true] at hnm
                  simp only [go_sem, Nat.reduceAdd, Nat.reduceLT, Nat.reduceEqDiff, Nat.reduceBEq, Nat.reduceLeDiff, Nat.reduceSub, Int.reduceToNat, reduceCtorEq, ↓reduceIte, avB, decide_true, decide_false, Int.lt_irrefl, hlen, hl2, Nat.zero_add, List.drop_zero, Nat.mul_one, Nat.le_refl, Int.toNat_natCast, List.take_of_length_le, f3, f4, f5, h1, hp, gT, gA, gZ, g48, g57, g45]
                  refine callX_of (C_Number m0 (n : Int) (by omega) (by omega)) ?_
                  simp only [go_sem, Nat.reduceAdd, Nat.reduceLT, Nat.reduceEqDiff, Nat.reduceBEq, Nat.reduceLeDiff, Nat.reduceSub, Int.reduceToNat, reduceCtorEq, ↓reduceIte, avB, decide_true, decide_false, Int.lt_irrefl, hlen, hl2, Nat.zero_add, List.drop_zero, Nat.mul_one, Nat.le_refl, Int.toNat_natCast, List.take_of_length_le, f3, f4, f5, h1, hp, gT, gA, gZ, g48, g57, g45]
                  rw [hset']
                  simp only [go_sem, Nat.reduceAdd, Nat.reduceLT, Nat.reduceEqDiff, Nat.reduceBEq, Nat.reduceLeDiff, Nat.reduceSub, Int.reduceToNat, reduceCtorEq, ↓reduceIte, avB, decide_true, decide_false, Int.lt_irrefl, hlen, hl2, Nat.zero_add, List.drop_zero, Nat.mul_one, Nat.le_refl, Int.toNat_natCast, List.take_of_length_le, f3, f4, f5, h1, hp, gT, gA, gZ, g48, g57, g45, eb, eb']
                  refine callX_of hnm ?_
                  simp only [go_sem, Nat.reduceAdd, Nat.reduceLT, Nat.reduceEqDiff, Nat.reduceBEq, Nat.reduceLeDiff, Nat.reduceSub, Int.reduceToNat, reduceCtorEq, ↓reduceIte, avB, decide_true, decide_false, Int.lt_irrefl, hlen, hl2, Nat.zero_add, List.drop_zero, Nat.mul_one, Nat.le_refl, Int.toNat_natCast, List.take_of_length_le, f3, f4, f5, h1, hp, gT, gA, gZ, g48, g57, g45, eb, eb']
                · have g45 : ((c : Int) == 45) = false := by simp only [beq_eq_false_iff_ne, ne_eq]; omega
                  have hr : (decide (n ≤ 12) && (letterN c || (decide (0 < p) && ((decide (48 ≤ c) && decide (c ≤ 57)) || c == 45)))) = false := by simp [letterN, hT, hA, hZ, h48, h57, h45]
                  rw [hr] at hnm
                  simp only [errN, avStr, Bool.false_eq_true, if_false] at hnm
                  simp only [go_sem, Nat.reduceAdd, Nat.reduceLT, Nat.reduceEqDiff, Nat.reduceBEq, Nat.reduceLeDiff, Nat.reduceSub, Int.reduceToNat, reduceCtorEq, ↓reduceIte, avB, decide_true, decide_false, Int.lt_irrefl, hlen, hl2, Nat.zero_add, List.drop_zero, Nat.mul_one, Nat.le_refl, Int.toNat_natCast, List.take_of_length_le, f3, f4, f5, h1, hp, gT, gA, gZ, g48, g57, g45]
                  refine callX_of (C_Number m0 (n : Int) (by omega) (by omega)) ?_
                  simp only [go_sem, Nat.reduceAdd, Nat.reduceLT, Nat.reduceEqDiff, Nat.reduceBEq, Nat.reduceLeDiff, Nat.reduceSub, Int.reduceToNat, reduceCtorEq, ↓reduceIte, avB, decide_true, decide_false, Int.lt_irrefl, hlen, hl2, Nat.zero_add, List.drop_zero, Nat.mul_one, Nat.le_refl, Int.toNat_natCast, List.take_of_length_le, f3, f4, f5, h1, hp, gT, gA, gZ, g48, g57, g45]
                  rw [hset']
                  simp only [go_sem, Nat.reduceAdd, Nat.reduceLT, Nat.reduceEqDiff, Nat.reduceBEq, Nat.reduceLeDiff, Nat.reduceSub, Int.reduceToNat, reduceCtorEq, ↓reduceIte, avB, decide_true, decide_false, Int.lt_irrefl, hlen, hl2, Nat.zero_add, List.drop_zero, Nat.mul_one, Nat.le_refl, Int.toNat_natCast, List.take_of_length_le, f3, f4, f5, h1, hp, gT, gA, gZ, g48, g57, g45, eb, eb']
                  refine callX_of hnm ?_
                  simp only [go_sem, Nat.reduceAdd, Nat.reduceLT, Nat.reduceEqDiff, Nat.reduceBEq, Nat.reduceLeDiff, Nat.reduceSub, Int.reduceToNat, reduceCtorEq, ↓reduceIte, avB, decide_true, decide_false, Int.lt_irrefl, hlen, hl2, Nat.zero_add, List.drop_zero, Nat.mul_one, Nat.le_refl, Int.toNat_natCast, List.take_of_length_le, f3, f4, f5, h1, hp, gT, gA, gZ, g48, g57, g45, eb, eb']
                  refine callX_of hnm ?_
                  simp only [go_sem, Nat.reduceAdd, Nat.reduceLT, Nat.reduceEqDiff, Nat.reduceBEq, Nat.reduceLeDiff, Nat.reduceSub, Int.reduceToNat, reduceCtorEq, ↓reduceIte, avB, decide_true, decide_false, Int.lt_irrefl, hlen, hl2, Nat.zero_add, List.drop_zero, Nat.mul_one, Nat.le_refl, Int.toNat_natCast, List.take_of_length_le, f3, f4, f5, h1, hp, gT, gA, gZ, g48, g57, g45, eb, eb']
                  refine callX_of hisn ?_
                  simp only [go_sem, Nat.reduceAdd, Nat.reduceLT, Nat.reduceEqDiff, Nat.reduceBEq, Nat.reduceLeDiff, Nat.reduceSub, Int.reduceToNat, reduceCtorEq, ↓reduceIte, avB, decide_true, decide_false, Int.lt_irrefl, hlen, hl2, Nat.zero_add, List.drop_zero, Nat.mul_one, Nat.le_refl, Int.toNat_natCast, List.take_of_length_le, f3, f4, f5, h1, hp, gT, gA, gZ, g48, g57, g45]
            · have g48 : ((48 : Int) ≤ (c : Int)) = False := eq_false (by omega)
              by_cases h45 : c = 45
              · have g45 : ((c : Int) == 45) = true := by rw [h45]; rfl
                have hr : (decide (n ≤ 12) && (letterN c || (decide (0 < p) && ((decide (48 ≤ c) && decide (c ≤ 57)) || c == 45)))) = true := by simp [letterN, hT, hA, hZ, h48, h45]
                rw [hr] at hnm
                simp only [errN, avStr, if_true] at hnm
                simp only [go_sem, Nat.reduceAdd, Nat.reduceLT, Nat.reduceEqDiff, Nat.reduceBEq, Nat.reduceLeDiff, Nat.reduceSub, Int.reduceToNat, reduceCtorEq, ↓reduceIte, avB, decide_true, decide_false, Int.lt_irrefl, hlen, hl2, Nat.zero_add, List.drop_zero, Nat.mul_one, Nat.le_refl, Int.toNat_natCast, List.take_of_length_le, f3, f4, f5, h1, hp, gT, gA, gZ, g48, g45]
                refine callX_of (C_Number m0 (n : Int) (by omega) (by omega)) ?_
                simp only [go_sem, Nat.reduceAdd, Nat.reduceLT, Nat.reduceEqDiff, Nat.reduceBEq, Nat.reduceLeDiff, Nat.reduceSub, Int.reduceToNat, reduceCtorEq, ↓reduceIte, avB, decide_true, decide_false, Int.lt_irrefl, hlen, hl2, Nat.zero_add, List.drop_zero, Nat.mul_one, Nat.le_refl, Int.toNat_natCast, List.take_of_length_le, f3, f4, f5, h1, hp, gT, gA, gZ, g48, g45]
                rw [hset']
                simp only [go_sem, Nat.reduceAdd, Nat.reduceLT, Nat.reduceEqDiff, Nat.reduceBEq, Nat.reduceLeDiff, Nat.reduceSub, Int.reduceToNat, reduceCtorEq, ↓reduceIte, avB, decide_true, decide_false, Int.lt_irrefl, hlen, hl2, Nat.zero_add, List.drop_zero, Nat.mul_one, Nat.le_refl, Int.toNat_natCast, List.take_of_length_le, f3, f4, f5, h1, hp, gT, gA, gZ, g48, g45, eb, eb']
                refine callX_of hnm ?_
                simp only [go_sem, Nat.reduceAdd, Nat.reduceLT, Nat.reduceEqDiff, Nat.reduceBEq, Nat.reduceLeDiff, Nat.reduceSub, Int.reduceToNat, reduceCtorEq, ↓reduceIte, avB, decide_true, decide_false, Int.lt_irrefl, hlen, hl2, Nat.zero_add, List.drop_zero, Nat.mul_one, Nat.le_refl, Int.toNat_natCast, List.take_of_length_le, f3, f4, f5, h1, hp, gT, gA, gZ, g48, g45, eb, eb']
              · have g45 : ((c : Int) == 45) = false := by simp only [beq_eq_false_iff_ne, ne_eq]; omega
                have hr : (decide (n ≤ 12) && (letterN c || (decide (0 < p) && ((decide (48 ≤ c) && decide (c ≤ 57)) || c == 45)))) = false := by simp [letterN, hT, hA, hZ, h48, h45]
                rw [hr] at hnm
                simp only [errN, avStr, Bool.false_eq_true, if_false] at hnm
                simp only [go_sem, Nat.reduceAdd, Nat.reduceLT, Nat.reduceEqDiff, Nat.reduceBEq, Nat.reduceLeDiff, Nat.reduceSub, Int.reduceToNat, reduceCtorEq, ↓reduceIte, avB, decide_true, decide_false, Int.lt_irrefl, hlen, hl2, Nat.zero_add, List.drop_zero, Nat.mul_one, Nat.le_refl, Int.toNat_natCast, List.take_of_length_le, f3, f4, f5, h1, hp, gT, gA, gZ, g48, g45]
                refine callX_of (C_Number m0 (n : Int) (by omega) (by omega)) ?_
                simp only [go_sem, Nat.reduceAdd, Nat.reduceLT, Nat.reduceEqDiff, Nat.reduceBEq, Nat.reduceLeDiff, Nat.reduceSub, Int.reduceToNat, reduceCtorEq, ↓reduceIte, avB, decide_true, decide_false, Int.lt_irrefl, hlen, hl2, Nat.zero_add, List.drop_zero, Nat.mul_one, Nat.le_refl, Int.toNat_natCast, List.take_of_length_le, f3, f4, f5, h1, hp, gT, gA, gZ, g48, g45]
                rw [hset']
                simp only [go_sem, Nat.reduceAdd, Nat.reduceLT, Nat.reduceEqDiff, Nat.reduceBEq, Nat.reduceLeDiff, Nat.reduceSub, Int.reduceToNat, reduceCtorEq, ↓reduceIte, avB, decide_true, decide_false, Int.lt_irrefl, hlen, hl2, Nat.zero_add, List.drop_zero, Nat.mul_one, Nat.le_refl, Int.toNat_natCast, List.take_of_length_le, f3, f4, f5, h1, hp, gT, gA, gZ, g48, g45, eb, eb']
                refine callX_of hnm ?_
                simp only [go_sem, Nat.reduceAdd, Nat.reduceLT, Nat.reduceEqDiff, Nat.reduceBEq, Nat.reduceLeDiff, Nat.reduceSub, Int.reduceToNat, reduceCtorEq, ↓reduceIte, avB, decide_true, decide_false, Int.lt_irrefl, hlen, hl2, Nat.zero_add, List.drop_zero, Nat.mul_one, Nat.le_refl, Int.toNat_natCast, List.take_of_length_le, f3, f4, f5, h1, hp, gT, gA, gZ, g48, g45, eb, eb']
                refine callX_of hnm ?_
                simp only [go_sem, Nat.reduceAdd, Nat.reduceLT, Nat.reduceEqDiff, Nat.reduceBEq, Nat.reduceLeDiff, Nat.reduceSub, Int.reduceToNat, reduceCtorEq, ↓reduceIte, avB, decide_true, decide_false, Int.lt_irrefl, hlen, hl2, Nat.zero_add, List.drop_zero, Nat.mul_one, Nat.le_refl, Int.toNat_natCast, List.take_of_length_le, f3, f4, f5, h1, hp, gT, gA, gZ, g48, g45, eb, eb']
                refine callX_of hisn ?_
                simp only [go_sem, Nat.reduceAdd, Nat.reduceLT, Nat.reduceEqDiff, Nat.reduceBEq, Nat.reduceLeDiff, Nat.reduceSub, Int.reduceToNat, reduceCtorEq, ↓reduceIte, avB, decide_true, decide_false, Int.lt_irrefl, hlen, hl2, Nat.zero_add, List.drop_zero, Nat.mul_one, Nat.le_refl, Int.toNat_natCast, List.take_of_length_le, f3, f4, f5, h1, hp, gT, gA, gZ, g48, g45]
          · have gZ : ((0 : Int) < (p : Int)) = False := eq_false (by omega)
            have hr : (decide (n ≤ 12) && (letterN c || (decide (0 < p) && ((decide (48 ≤ c) && decide (c ≤ 57)) || c == 45)))) = false := by simp [letterN, hT, hA, hZ]
            rw [hr] at hnm
            simp only [errN, avStr, Bool.false_eq_true, if_false] at hnm
            simp only [go_sem, Nat.reduceAdd, Nat.reduceLT, Nat.reduceEqDiff, Nat.reduceBEq, Nat.reduceLeDiff, Nat.reduceSub, Int.reduceToNat, reduceCtorEq, ↓reduceIte, avB, decide_true, decide_false, Int.lt_irrefl, hlen, hl2, Nat.zero_add, List.drop_zero, Nat.mul_one, Nat.le_refl, Int.toNat_natCast, List.take_of_length_le, f3, f4, f5, h1, hp, gT, gA, gZ]
            refine callX_of (C_Number m0 (n : Int) (by omega) (by omega)) ?_
            simp only [go_sem, Nat.reduceAdd, Nat.reduceLT, Nat.reduceEqDiff, Nat.reduceBEq, Nat.reduceLeDiff, Nat.reduceSub, Int.reduceToNat, reduceCtorEq, ↓reduceIte, avB, decide_true, decide_false, Int.lt_irrefl, hlen, hl2, Nat.zero_add, List.drop_zero, Nat.mul_one, Nat.le_refl, Int.toNat_natCast, List.take_of_length_le, f3, f4, f5, h1, hp, gT, gA, gZ]
            rw [hset']
            simp only [go_sem, Nat.reduceAdd, Nat.reduceLT, Nat.reduceEqDiff, Nat.reduceBEq, Nat.reduceLeDiff, Nat.reduceSub, Int.reduceToNat, reduceCtorEq, ↓reduceIte, avB, decide_true, decide_false, Int.lt_irrefl, hlen, hl2, Nat.zero_add, List.drop_zero, Nat.mul_one, Nat.le_refl, Int.toNat_natCast, List.take_of_length_le, f3, f4, f5, h1, hp, gT, gA, gZ, eb, eb']
            refine callX_of hnm ?_
            simp only [go_sem, Nat.reduceAdd, Nat.reduceLT, Nat.reduceEqDiff, Nat.reduceBEq, Nat.reduceLeDiff, Nat.reduceSub, Int.reduceToNat, reduceCtorEq, ↓reduceIte, avB, decide_true, decide_false, Int.lt_irrefl, hlen, hl2, Nat.zero_add, List.drop_zero, Nat.mul_one, Nat.le_refl, Int.toNat_natCast, List.take_of_length_le, f3, f4, f5, h1, hp, gT, gA, gZ, eb, eb']
            refine callX_of hnm ?_
            simp only [go_sem, Nat.reduceAdd, Nat.reduceLT, Nat.reduceEqDiff, Nat.reduceBEq, Nat.reduceLeDiff, Nat.reduceSub, Int.reduceToNat, reduceCtorEq, ↓reduceIte, avB, decide_true, decide_false, Int.lt_irrefl, hlen, hl2, Nat.zero_add, List.drop_zero, Nat.mul_one, Nat.le_refl, Int.toNat_natCast, List.take_of_length_le, f3, f4, f5, h1, hp, gT, gA, gZ, eb, eb']
            refine callX_of hisn ?_
            simp only [go_sem, Nat.reduceAdd, Nat.reduceLT, Nat.reduceEqDiff, Nat.reduceBEq, Nat.reduceLeDiff, Nat.reduceSub, Int.reduceToNat, reduceCtorEq, ↓reduceIte, avB, decide_true, decide_false, Int.lt_irrefl, hlen, hl2, Nat.zero_add, List.drop_zero, Nat.mul_one, Nat.le_refl, Int.toNat_natCast, List.take_of_length_le, f3, f4, f5, h1, hp, gT, gA, gZ]
      · have gT : ((n : Int) ≤ 12) = False := eq_false (by omega)
        by_cases hA : 97 ≤ c
        · have gA : ((97 : Int) ≤ (c : Int)) = True := eq_true (by omega)
          by_cases hB : c ≤ 122
          · have gB : ((c : Int) ≤ 122) = True := eq_true (by omega)
            have hr : (decide (n ≤ 12) && (letterN c || (decide (0 < p) && ((decide (48 ≤ c) && decide (c ≤ 57)) || c == 45)))) = false := by simp [letterN, hT, hA, hB]
            rw [hr] at hnm
            simp only [errN, avStr, Bool.false_eq_true, if_false] at hnm
            simp only [go_sem, Nat.reduceAdd, Nat.reduceLT, Nat.reduceEqDiff, Nat.reduceBEq, Nat.reduceLeDiff, Nat.reduceSub, Int.reduceToNat, reduceCtorEq, ↓reduceIte, avB, decide_true, decide_false, Int.lt_irrefl, hlen, hl2, Nat.zero_add, List.drop_zero, Nat.mul_one, Nat.le_refl, Int.toNat_natCast, List.take_of_length_le, f3, f4, f5, h1, hp, gT, gA, gB]
            refine callX_of (C_Number m0 (n : Int) (by omega) (by omega)) ?_
            simp only [go_sem, Nat.reduceAdd, Nat.reduceLT, Nat.reduceEqDiff, Nat.reduceBEq, Nat.reduceLeDiff, Nat.reduceSub, Int.reduceToNat, reduceCtorEq, ↓reduceIte, avB, decide_true, decide_false, Int.lt_irrefl, hlen, hl2, Nat.zero_add, List.drop_zero, Nat.mul_one, Nat.le_refl, Int.toNat_natCast, List.take_of_length_le, f3, f4, f5, h1, hp, gT, gA, gB]
            rw [hset']
            simp only [go_sem, Nat.reduceAdd, Nat.reduceLT, Nat.reduceEqDiff, Nat.reduceBEq, Nat.reduceLeDiff, Nat.reduceSub, Int.reduceToNat, reduceCtorEq, ↓reduceIte, avB, decide_true, decide_false, Int.lt_irrefl, hlen, hl2, Nat.zero_add, List.drop_zero, Nat.mul_one, Nat.le_refl, Int.toNat_natCast, List.take_of_length_le, f3, f4, f5, h1, hp, gT, gA, gB, eb, eb']
            refine callX_of hnm ?_
            simp only [go_sem, Nat.reduceAdd, Nat.reduceLT, Nat.reduceEqDiff, Nat.reduceBEq, Nat.reduceLeDiff, Nat.reduceSub, Int.reduceToNat, reduceCtorEq, ↓reduceIte, avB, decide_true, decide_false, Int.lt_irrefl, hlen, hl2, Nat.zero_add, List.drop_zero, Nat.mul_one, Nat.le_refl, Int.toNat_natCast, List.take_of_length_le, f3, f4, f5, h1, hp, gT, gA, gB, eb, eb']
            refine callX_of hnm ?_
            simp only [go_sem, Nat.reduceAdd, Nat.reduceLT, Nat.reduceEqDiff, Nat.reduceBEq, Nat.reduceLeDiff, Nat.reduceSub, Int.reduceToNat, reduceCtorEq, ↓reduceIte, avB, decide_true, decide_false, Int.lt_irrefl, hlen, hl2, Nat.zero_add, List.drop_zero, Nat.mul_one, Nat.le_refl, Int.toNat_natCast, List.take_of_length_le, f3, f4, f5, h1, hp, gT, gA, gB, eb, eb']
            refine callX_of hisn ?_
            simp only [go_sem, Nat.reduceAdd, Nat.reduceLT, Nat.reduceEqDiff, Nat.reduceBEq, Nat.reduceLeDiff, Nat.reduceSub, Int.reduceToNat, reduceCtorEq, ↓reduceIte, avB, decide_true, decide_false, Int.lt_irrefl, hlen, hl2, Nat.zero_add, List.drop_zero, Nat.mul_one, Nat.le_refl, Int.toNat_natCast, List.take_of_length_le, f3, f4, f5, h1, hp, gT, gA, gB]
          · have gB : ((c : Int) ≤ 122) = False := eq_false (by omega)
            have hr : (decide (n ≤ 12) && (letterN c || (decide (0 < p) && ((decide (48 ≤ c) && decide (c ≤ 57)) || c == 45)))) = false := by simp [letterN, hT, hA, hB]
            rw [hr] at hnm
            simp only [errN, avStr, Bool.false_eq_true, if_false] at hnm
            simp only [go_sem, Nat.reduceAdd, Nat.reduceLT, Nat.reduceEqDiff, Nat.reduceBEq, Nat.reduceLeDiff, Nat.reduceSub, Int.reduceToNat, reduceCtorEq, ↓reduceIte, avB, decide_true, decide_false, Int.lt_irrefl, hlen, hl2, Nat.zero_add, List.drop_zero, Nat.mul_one, Nat.le_refl, Int.toNat_natCast, List.take_of_length_le, f3, f4, f5, h1, hp, gT, gA, gB]
            refine callX_of (C_Number m0 (n : Int) (by omega) (by omega)) ?_
            simp only [go_sem, Nat.reduceAdd, Nat.reduceLT, Nat.reduceEqDiff, Nat.reduceBEq, Nat.reduceLeDiff, Nat.reduceSub, Int.reduceToNat, reduceCtorEq, ↓reduceIte, avB, decide_true, decide_false, Int.lt_irrefl, hlen, hl2, Nat.zero_add, List.drop_zero, Nat.mul_one, Nat.le_refl, Int.toNat_natCast, List.take_of_length_le, f3, f4, f5, h1, hp, gT, gA, gB]
            rw [hset']
            simp only [go_sem, Nat.reduceAdd, Nat.reduceLT, Nat.reduceEqDiff, Nat.reduceBEq, Nat.reduceLeDiff, Nat.reduceSub, Int.reduceToNat, reduceCtorEq, ↓reduceIte, avB, decide_true, decide_false, Int.lt_irrefl, hlen, hl2, Nat.zero_add, List.drop_zero, Nat.mul_one, Nat.le_refl, Int.toNat_natCast, List.take_of_length_le, f3, f4, f5, h1, hp, gT, gA, gB, eb, eb']
            refine callX_of hnm ?_
            simp only [go_sem, Nat.reduceAdd, Nat.reduceLT, Nat.reduceEqDiff, Nat.reduceBEq, Nat.reduceLeDiff, Nat.reduceSub, Int.reduceToNat, reduceCtorEq, ↓reduceIte, avB, decide_true, decide_false, Int.lt_irrefl, hlen, hl2, Nat.zero_add, List.drop_zero, Nat.mul_one, Nat.le_refl, Int.toNat_natCast, List.take_of_length_le, f3, f4, f5, h1, hp, gT, gA, gB, eb, eb']
            refine callX_of hnm ?_
            simp only [go_sem, Nat.reduceAdd, Nat.reduceLT, Nat.reduceEqDiff, Nat.reduceBEq, Nat.reduceLeDiff, Nat.reduceSub, Int.reduceToNat, reduceCtorEq, ↓reduceIte, avB, decide_true, decide_false, Int.lt_irrefl, hlen, hl2, Nat.zero_add, List.drop_zero, Nat.mul_one, Nat.le_refl, Int.toNat_natCast, List.take_of_length_le, f3, f4, f5, h1, hp, gT, gA, gB, eb, eb']
            refine callX_of hisn ?_
            simp only [go_sem, Nat.reduceAdd, Nat.reduceLT, Nat.reduceEqDiff, Nat.reduceBEq, Nat.reduceLeDiff, Nat.reduceSub, Int.reduceToNat, reduceCtorEq, ↓reduceIte, avB, decide_true, decide_false, Int.lt_irrefl, hlen, hl2, Nat.zero_add, List.drop_zero, Nat.mul_one, Nat.le_refl, Int.toNat_natCast, List.take_of_length_le, f3, f4, f5, h1, hp, gT, gA, gB]
        · have gA : ((97 : Int) ≤ (c : Int)) = False := eq_false (by omega)
          have hr : (decide (n ≤ 12) && (letterN c || (decide (0 < p) && ((decide (48 ≤ c) && decide (c ≤ 57)) || c == 45)))) = false := by simp [letterN, hT, hA]
          rw [hr] at hnm
          simp only [errN, avStr, Bool.false_eq_true, if_false] at hnm
          simp only [go_sem, Nat.reduceAdd, Nat.reduceLT, Nat.reduceEqDiff, Nat.reduceBEq, Nat.reduceLeDiff, Nat.reduceSub, Int.reduceToNat, reduceCtorEq, ↓reduceIte, avB, decide_true, decide_false, Int.lt_irrefl, hlen, hl2, Nat.zero_add, List.drop_zero, Nat.mul_one, Nat.le_refl, Int.toNat_natCast, List.take_of_length_le, f3, f4, f5, h1, hp, gT, gA]
          refine callX_of (C_Number m0 (n : Int) (by omega) (by omega)) ?_
          simp only [go_sem, Nat.reduceAdd, Nat.reduceLT, Nat.reduceEqDiff, Nat.reduceBEq, Nat.reduceLeDiff, Nat.reduceSub, Int.reduceToNat, reduceCtorEq, ↓reduceIte, avB, decide_true, decide_false, Int.lt_irrefl, hlen, hl2, Nat.zero_add, List.drop_zero, Nat.mul_one, Nat.le_refl, Int.toNat_natCast, List.take_of_length_le, f3, f4, f5, h1, hp, gT, gA]
          rw [hset']
          simp only [go_sem, Nat.reduceAdd, Nat.reduceLT, Nat.reduceEqDiff, Nat.reduceBEq, Nat.reduceLeDiff, Nat.reduceSub, Int.reduceToNat, reduceCtorEq, ↓reduceIte, avB, decide_true, decide_false, Int.lt_irrefl, hlen, hl2, Nat.zero_add, List.drop_zero, Nat.mul_one, Nat.le_refl, Int.toNat_natCast, List.take_of_length_le, f3, f4, f5, h1, hp, gT, gA, eb, eb']
          refine callX_of hnm ?_
          simp only [go_sem, Nat.reduceAdd, Nat.reduceLT, Nat.reduceEqDiff, Nat.reduceBEq, Nat.reduceLeDiff, Nat.reduceSub, Int.reduceToNat, reduceCtorEq, ↓reduceIte, avB, decide_true, decide_false, Int.lt_irrefl, hlen, hl2, Nat.zero_add, List.drop_zero, Nat.mul_one, Nat.le_refl, Int.toNat_natCast, List.take_of_length_le, f3, f4, f5, h1, hp, gT, gA, eb, eb']
          refine callX_of hnm ?_
          simp only [go_sem, Nat.reduceAdd, Nat.reduceLT, Nat.reduceEqDiff, Nat.reduceBEq, Nat.reduceLeDiff, Nat.reduceSub, Int.reduceToNat, reduceCtorEq, ↓reduceIte, avB, decide_true, decide_false, Int.lt_irrefl, hlen, hl2, Nat.zero_add, List.drop_zero, Nat.mul_one, Nat.le_refl, Int.toNat_natCast, List.take_of_length_le, f3, f4, f5, h1, hp, gT, gA, eb, eb']
          refine callX_of hisn ?_
          simp only [go_sem, Nat.reduceAdd, Nat.reduceLT, Nat.reduceEqDiff, Nat.reduceBEq, Nat.reduceLeDiff, Nat.reduceSub, Int.reduceToNat, reduceCtorEq, ↓reduceIte, avB, decide_true, decide_false, Int.lt_irrefl, hlen, hl2, Nat.zero_add, List.drop_zero, Nat.mul_one, Nat.le_refl, Int.toNat_natCast, List.take_of_length_le, f3, f4, f5, h1, hp, gT, gA]

end Go.Proofs.YtodnphnbnneegaaDoor.VL
