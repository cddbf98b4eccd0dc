/- rivuletlaw5.LexMany: the walk. -/
import Derived.Test.YtodnphnbnneegaaDoorLexNames
set_option linter.unusedVariables false
set_option linter.unusedSimpArgs false
set_option maxHeartbeats 8000000
namespace Go.Proofs.YtodnphnbnneegaaDoor.VL
open Go.RowKit Go.Proofs

/-- So many newlines. -/
def manL (n k : Nat) : List Nat := (List.range n).map fun i => if i < k then 10 else 0
theorem manL_len (n k : Nat) (h : k ≤ n) : (manL n k).length = n := by simp [manL]
theorem manL_0 (n : Nat) : List.replicate n 0 = manL n 0 := by
  apply List.ext_getElem
  · simp [manL]
  · intro i h1 h2
    simp [manL]
theorem manL_n (n : Nat) : manL n n = List.replicate n 10 := by
  apply List.ext_getElem
  · simp [manL]
  · intro i h1 h2
    have : i < n := by simpa [manL] using h1
    simp [manL, this]
theorem manL_set (n k : Nat) (h : k < n) : (manL n k).set k 10 = manL n (k + 1) := by
  apply List.ext_getElem
  · simp [manL]
  · intro i h1 h2
    rw [List.getElem_set]
    simp only [manL, List.getElem_map, List.getElem_range]
    by_cases e : k = i
    · subst e; simp
    · rw [if_neg e]
      by_cases e2 : i < k
      · rw [if_pos e2, if_pos (by omega)]
      · rw [if_neg e2, if_neg (by omega)]

theorem empty_words : wordsOf ⟨#[]⟩ = [] := by decide +kernel
theorem a_words : wordsOf ⟨#[97]⟩ = [⟨#[97]⟩] := by decide +kernel
theorem b_words : wordsOf ⟨#[98]⟩ = [⟨#[98]⟩] := by decide +kernel
theorem linesGo_empty : ∀ (k i : Nat) (r : List ByteArray), linesGo i (List.replicate k ⟨#[]⟩ ++ r) = linesGo (i + k) r
  | 0, i, r => rfl
  | k + 1, i, r => by
    rw [List.replicate_succ, List.cons_append, linesGo, lineOf, if_pos empty_words, List.nil_append, linesGo_empty k (i + 1) r]
    congr 1
    omega
theorem spl_nl : ∀ (k : Nat) (r : List UInt8), spl 10 (List.replicate k 10 ++ r) = List.replicate k [] ++ spl 10 r
  | 0, r => rfl
  | k + 1, r => by rw [List.replicate_succ, List.cons_append, spl, if_pos rfl, spl_nl k r, List.replicate_succ, List.cons_append]

theorem many_lines (k : Nat) (s : ByteArray) (hs : s.data.toList = 97 :: (List.replicate (k + 1) 10 ++ [98])) : linesV s = [(1, [⟨#[97]⟩]), (k + 2, [⟨#[98]⟩])] := by
  have e : spl 10 s.data.toList = [97] :: (List.replicate k [] ++ [[98]]) := by
    rw [hs, show (97 : UInt8) :: (List.replicate (k + 1) 10 ++ [98]) = [97] ++ 10 :: (List.replicate k 10 ++ [98]) by rw [List.replicate_succ]; rfl, spl_app 10 _ [97] (by decide), spl_nl]
    rfl
  unfold linesV
  rw [parts_spl, e, List.map_cons, List.map_append, List.map_replicate]
  have e2 : toB [] = ⟨#[]⟩ := rfl
  have e3 : toB [97] = ⟨#[97]⟩ := rfl
  have e4 : List.map toB [[98]] = [⟨#[98]⟩] := rfl
  rw [e2, e3, e4, linesGo, lineOf, if_neg (by rw [a_words]; simp), linesGo_empty, a_words, linesGo, lineOf, if_neg (by rw [b_words]; simp), b_words, linesGo]
  simp
  omega

theorem man_cells (k : Nat) : ((((List.replicate (k + 3) 10).set 0 97).set (k + 2) 98).map UInt8.ofNat) = 97 :: (List.replicate (k + 1) 10 ++ [98]) := by
  rw [show k + 3 = (k + 2) + 1 from rfl, List.replicate_succ, List.set_cons_zero, show k + 2 = (k + 1) + 1 from rfl, List.set_cons_succ, List.map_cons]
  congr 1
  rw [show k + 1 + 1 = (k + 1) + 1 from rfl, List.replicate_succ', List.set_append]
  simp

theorem is_many : AC Tryd.prog f_rivuletsee_Is [.gl 0, .lit (.int .i64 104)] (.lit (.bool true)) :=
  C_Is (some 0) (fun i hi => by injection hi with hi; subst hi; decide) 104

theorem AC_LexMany (n0 : Int) : AC Tryd.prog f_rivuletlaw5_LexMany [.lit (.int .i64 n0)] (.lit (.bool true)) := by
  refine ac_rivuletlaw5_LexMany ?_ (Nat.le_add_left 1 _)
  simp only [go_sem, Nat.reduceAdd, Nat.reduceLT, Nat.reduceEqDiff, Nat.reduceBEq, Nat.reduceLeDiff, Nat.reduceSub, Int.reduceToNat, reduceCtorEq, ↓reduceIte, c_rivuletlaw5_LexMany]
  refine callX_of C_first5 ?_
  simp only [go_sem, Nat.reduceAdd, Nat.reduceLT, Nat.reduceEqDiff, Nat.reduceBEq, Nat.reduceLeDiff, Nat.reduceSub, Int.reduceToNat, reduceCtorEq, ↓reduceIte]
  refine callX_of (C_Number n0 7 (by decide) (by decide)) ?_
  have e0 := Int.emod_nonneg n0 (show (7 : Int) ≠ 0 by decide)
  have e1 := Int.emod_lt_of_pos n0 (show (0 : Int) < 7 by decide)
  obtain ⟨n, hn, hn1, hn2⟩ : ∃ n : Nat, IntKind.i64.wrap (16381 + n0 % 7) = (n : Int) ∧ 16381 ≤ n ∧ n ≤ 16387 := ⟨(16381 + n0 % 7).toNat, by rw [IntKind.wrap_i64]; omega, by omega, by omega⟩
  have k0 : (0 ≤ (n : Int)) = True := eq_true (by omega)
  have k1 : ((n : Int) ≤ 4294967296) = True := eq_true (by omega)
  simp only [go_sem, Nat.reduceAdd, Nat.reduceLT, Nat.reduceEqDiff, Nat.reduceBEq, Nat.reduceLeDiff, Nat.reduceSub, Int.reduceToNat, reduceCtorEq, ↓reduceIte, hn, k0, k1, Nat.reduceLeDiff, Int.toNat_natCast, bytes_zero, manL_0]
  refine aw_loop (fun m E => ∃ k : Nat, k + m = n ∧ E = mkE [(0, .lit (.int .i64 (n : Nat))), (3, .lit (.bool true)), (4, .ml 15 0 n n false 1), (5, .lit (.int .i64 (k : Nat)))] [(15, (manL n k).map avB)]) n ?_ ?_
  · exact ⟨0, by omega, by simp only [go_sem, Nat.reduceAdd, Nat.reduceLT, Nat.reduceEqDiff, Nat.reduceBEq, Nat.reduceLeDiff, Nat.reduceSub, Int.reduceToNat, reduceCtorEq, ↓reduceIte]; rfl⟩
  · rintro m _ ⟨k, hk, rfl⟩
    have hlen : ((manL n k).map avB).length = n := by rw [List.length_map, manL_len n k (by omega)]
    by_cases hkn : k < n
    · have f1 : ((k : Int) < (n : Int)) = True := eq_true (by omega)
      have f2 : (0 ≤ (k : Int)) = True := eq_true (by omega)
      have w3 := wrap_succ k (by omega)
      have hset := bytes_set (manL n k) k 10 (by rw [manL_len n k (by omega)]; exact hkn)
      rw [manL_set n k hkn] at hset
      have h1 : k + 1 ≤ n := hkn
      simp only [go_sem, Nat.reduceAdd, Nat.reduceLT, Nat.reduceEqDiff, Nat.reduceBEq, Nat.reduceLeDiff, Nat.reduceSub, Int.reduceToNat, reduceCtorEq, ↓reduceIte, f1, f2, decide_true, w3, Nat.zero_add, Nat.mul_one, Int.toNat_natCast, hlen, h1]
      refine ⟨m - 1, by omega, k + 1, by omega, ?_⟩
      rw [← hset]
      rfl
    · have f1 : ((k : Int) < (n : Int)) = False := eq_false (by omega)
      obtain rfl : n = k := by omega
      rw [manL_n]
      rw [manL_n] at hlen
      have g0 : ((0 : Int) < (n : Int)) = True := eq_true (by omega)
      have g1 : 0 + 1 ≤ n := by omega
      have w1 : IntKind.i64.wrap ((n : Int) - 1) = ((n - 1 : Nat) : Int) := by rw [IntKind.wrap_i64]; omega
      have g2 : (0 ≤ ((n - 1 : Nat) : Int)) = True := eq_true (by omega)
      have g3 : (((n - 1 : Nat) : Int) < (n : Int)) = True := eq_true (by omega)
      have g4 : n - 1 + 1 ≤ n := by omega
      have hs0 := bytes_set (List.replicate n 10) 0 97 (by simp; omega)
      have hl1 : (((List.replicate n 10).set 0 97).map avB).length = n := by simp
      have hs1 := bytes_set ((List.replicate n 10).set 0 97) (n - 1) 98 (by simp; omega)
      have hl2 : ((((List.replicate n 10).set 0 97).set (n - 1) 98).map avB).length = n := by simp
      have eb := bytesA_nat (((List.replicate n 10).set 0 97).set (n - 1) 98)
      simp only [go_sem, Nat.reduceAdd, Nat.reduceLT, Nat.reduceEqDiff, Nat.reduceBEq, Nat.reduceLeDiff, Nat.reduceSub, Int.reduceToNat, reduceCtorEq, ↓reduceIte, f1, decide_false, Int.le_refl, g0, g1, hlen, Nat.zero_add, Nat.mul_one]
      have hs0' : AV.lit (.int .u8 97) :: List.drop 1 (List.map avB (List.replicate n 10)) = ((List.replicate n 10).set 0 97).map avB := hs0
      rw [hs0']
      have hs1' : List.take (n - 1) (((List.replicate n 10).set 0 97).map avB) ++ [AV.lit (.int .u8 98)] ++ List.drop (n - 1 + 1) (((List.replicate n 10).set 0 97).map avB) = (((List.replicate n 10).set 0 97).set (n - 1) 98).map avB := hs1
      simp only [go_sem, Nat.reduceAdd, Nat.reduceLT, Nat.reduceEqDiff, Nat.reduceBEq, Nat.reduceLeDiff, Nat.reduceSub, Int.reduceToNat, reduceCtorEq, ↓reduceIte, w1, g2, g3, g4, hl1, Nat.zero_add, Nat.mul_one, Int.toNat_natCast]
      rw [hs1']
      simp only [go_sem, Nat.reduceAdd, Nat.reduceLT, Nat.reduceEqDiff, Nat.reduceBEq, Nat.reduceLeDiff, Nat.reduceSub, Int.reduceToNat, reduceCtorEq, ↓reduceIte, Nat.zero_add, List.drop_zero, hl2, Nat.le_refl, List.take_of_length_le, eb]
      have hsd : (⟨((((List.replicate n 10).set 0 97).set (n - 1) 98).map UInt8.ofNat).toArray⟩ : ByteArray).data.toList = 97 :: (List.replicate (n - 3 + 1) 10 ++ [98]) := by
        have h3 : n = (n - 3) + 3 := by omega
        have := man_cells (n - 3)
        rw [← h3, show n - 3 + 2 = n - 1 by omega] at this
        simpa using this
      have hsz : (⟨((((List.replicate n 10).set 0 97).set (n - 1) 98).map UInt8.ofNat).toArray⟩ : ByteArray).size = n := by
        rw [Lib.size_eq, hsd]
        simp
        omega
      generalize (⟨((((List.replicate n 10).set 0 97).set (n - 1) 98).map UInt8.ofNat).toArray⟩ : ByteArray) = s at hsd hsz
      by_cases hbig : 16384 < n
      · have g5 : ((16384 : Int) < (n : Int)) = True := eq_true (by omega)
        refine callX_of (C_Lines_many s (by omega)) ?_
        simp only [go_sem, Nat.reduceAdd, Nat.reduceLT, Nat.reduceEqDiff, Nat.reduceBEq, Nat.reduceLeDiff, Nat.reduceSub, Int.reduceToNat, reduceCtorEq, ↓reduceIte, g5, decide_true, List.length_nil, c0, beq_self_eq_true]
        refine callX_of is_many ?_
        simp only [go_sem, Nat.reduceAdd, Nat.reduceLT, Nat.reduceEqDiff, Nat.reduceBEq, Nat.reduceLeDiff, Nat.reduceSub, Int.reduceToNat, reduceCtorEq, ↓reduceIte]
      · have g5 : ((16384 : Int) < (n : Int)) = False := eq_false (by omega)
        have hL := C_Lines s (by omega)
        rw [many_lines (n - 3) s hsd, show n - 3 + 2 = n - 1 by omega] at hL
        simp only [outAV, List.map_cons, List.map_nil, avLine, avStr] at hL
        refine callX_of hL ?_
        have hc2 : (((0 + 1 + 1 : Nat) : Int) == 2) = true := by decide
        simp only [go_sem, Nat.reduceAdd, Nat.reduceLT, Nat.reduceEqDiff, Nat.reduceBEq, Nat.reduceLeDiff, Nat.reduceSub, Int.reduceToNat, reduceCtorEq, ↓reduceIte, g5, w1, decide_false, List.length_cons, List.length_nil, Nat.reduceAdd, c2, c1, beq_self_eq_true, List.getElem?_cons_zero, List.getElem?_cons_succ, Int.reduceLE, Int.le_refl]

end Go.Proofs.YtodnphnbnneegaaDoor.VL
