/- slices.Sort over addresses, part 6: partialInsertionSort: a contract. -/
import Derived.Test.YtmjmfollimaleaaSort5
set_option linter.unusedVariables false
set_option linter.unusedSimpArgs false
set_option maxHeartbeats 4000000
namespace Go.Proofs.Ytmjmfollimaleaa.VL
open Go.RowKit Go.Proofs Go.Sort

/-- A loop that ends at one place, but for what is dead there. -/
theorem aw_loopB {P : Program} {a : ACode} {kl dl kb : List Nat} {i : Nat} {E : Env} {Q : AExit → Env → Prop} (I : Nat → Env → Prop) (n : Nat) (F : Env) (h0 : I n ((E.dropS kl).freshL dl))
    (h : ∀ m E', I m E' → aw P a E' (thenQ (fun E'' => ∃ k, k < m ∧ I k ((E''.dropS kl).freshL dl)) (fun ex E'' => ex = .exit i ∧ E''.dropS kb = F))) (hF : Q .normal F) : aw P (.loop a kl dl) E (blockQ i kb Q) :=
  aw_mono _ (Q := fun ex E'' => ex = .exit i ∧ E''.dropS kb = F) (fun ex E'' h => by
    obtain ⟨rfl, rfl⟩ := h
    show if i = i then _ else _
    rw [if_pos rfl]
    exact hF) (aw_loop I n h0 h)

theorem shiftDown_size {lt : Int → Int → Bool} : ∀ (j : Nat) (x : Array Int), (shiftDown lt j x).size = x.size
  | 0, x => rfl
  | j + 1, x => by
    rw [shiftDown]
    split
    · rfl
    · rw [shiftDown_size j, swp_size]
theorem shiftUp_size {lt : Int → Int → Bool} {b : Nat} (j : Nat) (x : Array Int) : (shiftUp lt b j x).size = x.size := by
  generalize hn : b - j = n
  induction n generalizing j x with
  | zero => rw [shiftUp, if_neg (by omega)]
  | succ n ih =>
    rw [shiftUp]
    split
    · split
      · rfl
      · rw [ih _ _ (by omega), swp_size]
    · rfl
theorem scanSorted_in {lt : Int → Int → Bool} {x : Array Int} {b i : Nat} (h : i ≤ b) : i ≤ scanSorted lt x b i ∧ scanSorted lt x b i ≤ b := by
  generalize hn : b - i = n
  induction n generalizing i with
  | zero => rw [scanSorted, if_neg (by simp; omega)]; omega
  | succ n ih =>
    rw [scanSorted]
    split
    · have := ih (i := i + 1) (by omega) (by omega)
      omega
    · omega

theorem C_partialIns {d : Array Int} {a b cap : Nat} {tl : List AV} (ht : Tl tl) (hab : a < b) (hb : b ≤ d.size) (hd : d.size ≤ 255) :
    AM Try.prog f_slices_partialInsertionSortOrdered_api_Addr [dS d.size cap, iI a, iI b] [(100000, dC d tl)] (.lit (.bool (partialInsertionSort ltInt d a b).2)) [(100000, dC (partialInsertionSort ltInt d a b).1 tl)] := by
  refine am_slices_partialInsertionSortOrdered_api_Addr ?_ (by simp) (Nat.le_add_left 3 _)
  simp only [go_sem, Nat.reduceAdd, Nat.reduceLT, Nat.reduceEqDiff, Nat.reduceBEq, Nat.reduceLeDiff, Nat.reduceSub, Int.reduceToNat, reduceCtorEq, ↓reduceIte, env0M_mk, c_slices_partialInsertionSortOrdered_api_Addr, List.map_cons, List.map_nil, iwn (a + 1) (by omega : (a : Int) + 1 = ((a + 1 : Nat) : Int)) (by omega)]
  refine aw_loop (fun m E => ∃ (s i : Nat) (x : Array Int), x.size = d.size ∧ a < i ∧ i ≤ b ∧ s ≤ 5 ∧ s ≤ m ∧ partialIns ltInt a b s i x = partialInsertionSort ltInt d a b ∧
    E = mkE [(0, dS d.size cap), (1, iI a), (2, iI b), (7, iI i), (8, iI ((5 - s : Nat)))] [(100000, dC x tl)]) 5 ?_ ?_
  · exact ⟨5, a + 1, d, rfl, by omega, by omega, by omega, by omega, rfl, by simp only [go_sem, Nat.reduceAdd, Nat.reduceLT, Nat.reduceEqDiff, Nat.reduceBEq, Nat.reduceLeDiff, Nat.reduceSub, Int.reduceToNat, reduceCtorEq, ↓reduceIte, Nat.sub_self, Int.natCast_zero]⟩
  · rintro m _ ⟨s, i, x, hx, hai, hib, hs5, hm, hr, rfl⟩
    cases s with
    | zero =>
      have f1 : (((5 - 0 : Nat) : Int) < 5) = False := eq_false (by omega)
      have e : partialInsertionSort ltInt d a b = (x, false) := by rw [← hr]; rfl
      simp only [go_sem, Nat.reduceAdd, Nat.reduceLT, Nat.reduceEqDiff, Nat.reduceBEq, Nat.reduceLeDiff, Nat.reduceSub, Int.reduceToNat, reduceCtorEq, ↓reduceIte, f1, decide_false, endM_n, endM_r, e, retC_dC ht, and_self]
    | succ s =>
      have f1 : (((5 - (s + 1) : Nat) : Int) < 5) = True := eq_true (by omega)
      have w5 := iwn (5 - s) (by omega : ((5 - (s + 1) : Nat) : Int) + 1 = ((5 - s : Nat) : Int)) (by omega)
      have hk := scanSorted_in (lt := ltInt) (x := x) hib
      rw [partialIns] at hr
      simp only [] at hr
      generalize hK : scanSorted ltInt x b i = k at hr hk
      simp only [go_sem, Nat.reduceAdd, Nat.reduceLT, Nat.reduceEqDiff, Nat.reduceBEq, Nat.reduceLeDiff, Nat.reduceSub, Int.reduceToNat, reduceCtorEq, ↓reduceIte, f1, decide_true]
      refine aw_loopB (fun m' E => ∃ (j : Nat), a < j ∧ j ≤ b ∧ b - j ≤ m' ∧ scanSorted ltInt x b j = k ∧
        E = mkE [(0, dS d.size cap), (1, iI a), (2, iI b), (7, iI j), (8, iI ((5 - (s + 1) : Nat)))] [(100000, dC x tl)]) b
        (mkE [(0, dS d.size cap), (1, iI a), (2, iI b), (7, iI k), (8, iI ((5 - (s + 1) : Nat)))] [(100000, dC x tl)]) ?_ ?_ ?_
      · exact ⟨i, hai, hib, by omega, hK, by simp only [go_sem, Nat.reduceAdd, Nat.reduceLT, Nat.reduceEqDiff, Nat.reduceBEq, Nat.reduceLeDiff, Nat.reduceSub, Int.reduceToNat, reduceCtorEq, ↓reduceIte]⟩
      · rintro m' _ ⟨j, haj, hjb, hm', hjk, rfl⟩
        by_cases h6 : j < b
        · have f5 : ((j : Int) < (b : Int)) = True := eq_true (by omega)
          have wj := iwn (j - 1) (by omega : (j : Int) - 1 = ((j - 1 : Nat) : Int)) (by omega)
          have wj2 := iwn (j + 1) (by omega : (j : Int) + 1 = ((j + 1 : Nat) : Int)) (by omega)
          have bj : (j : Int) < (d.size : Int) := by omega
          have bj1 : ((j - 1 : Nat) : Int) < (d.size : Int) := by omega
          have g3 := dC_ld tl (show j < x.size by omega)
          have g4 := dC_ld tl (show j - 1 < x.size by omega)
          simp only [go_sem, Nat.reduceAdd, Nat.reduceLT, Nat.reduceEqDiff, Nat.reduceBEq, Nat.reduceLeDiff, Nat.reduceSub, Int.reduceToNat, reduceCtorEq, ↓reduceIte, f5, decide_true, wj, bj, bj1, g3, g4, Int.natCast_nonneg, Int.toNat_natCast, Nat.zero_add, Nat.mul_one]
          refine callX_of (C_Less x[j]! x[j - 1]!) ?_
          rw [scanSorted] at hjk
          cases hl : ltInt x[j]! x[j - 1]! with
          | true =>
            rw [if_neg (by simp [hl])] at hjk
            subst hjk
            simp only [go_sem, Nat.reduceAdd, Nat.reduceLT, Nat.reduceEqDiff, Nat.reduceBEq, Nat.reduceLeDiff, Nat.reduceSub, Int.reduceToNat, reduceCtorEq, ↓reduceIte, Bool.not_true, and_self]
          | false =>
            rw [if_pos (by simp [hl, h6])] at hjk
            simp only [go_sem, Nat.reduceAdd, Nat.reduceLT, Nat.reduceEqDiff, Nat.reduceBEq, Nat.reduceLeDiff, Nat.reduceSub, Int.reduceToNat, reduceCtorEq, ↓reduceIte, Bool.not_false, wj2]
            exact ⟨m' - 1, by omega, j + 1, by omega, by omega, by omega, hjk, rfl⟩
        · have f5 : ((j : Int) < (b : Int)) = False := eq_false (by omega)
          rw [scanSorted, if_neg (by simp [h6])] at hjk
          subst hjk
          simp only [go_sem, Nat.reduceAdd, Nat.reduceLT, Nat.reduceEqDiff, Nat.reduceBEq, Nat.reduceLeDiff, Nat.reduceSub, Int.reduceToNat, reduceCtorEq, ↓reduceIte, f5, decide_false, and_self]
      by_cases hkb : k = b
      · have f2 : ((k : Int) == (b : Int)) = true := by simp [hkb]
        rw [if_pos hkb] at hr
        simp only [go_sem, Nat.reduceAdd, Nat.reduceLT, Nat.reduceEqDiff, Nat.reduceBEq, Nat.reduceLeDiff, Nat.reduceSub, Int.reduceToNat, reduceCtorEq, ↓reduceIte, f2, endM_n, endM_r, ← hr, retC_dC ht, and_self]
      have f2 : ((k : Int) == (b : Int)) = false := by simp; omega
      rw [if_neg hkb] at hr
      have wB := iwn (b - a) (by omega : (b : Int) - (a : Int) = ((b - a : Nat) : Int)) (by omega)
      by_cases h50 : b - a < 50
      · have f3 : (((b - a : Nat) : Int) < 50) = True := eq_true (by omega)
        rw [if_pos h50] at hr
        simp only [go_sem, Nat.reduceAdd, Nat.reduceLT, Nat.reduceEqDiff, Nat.reduceBEq, Nat.reduceLeDiff, Nat.reduceSub, Int.reduceToNat, reduceCtorEq, ↓reduceIte, f2, wB, f3, decide_true, endM_n, endM_r, ← hr, retC_dC ht, and_self]
      have f3 : (((b - a : Nat) : Int) < 50) = False := eq_false (by omega)
      rw [if_neg h50] at hr
      have wk1 := iwn (k + 1) (by omega : (k : Int) + 1 = ((k + 1 : Nat) : Int)) (by omega)
      have wk2 := iwn (k - 1) (by omega : (k : Int) - 1 = ((k - 1 : Nat) : Int)) (by omega)
      have bk : (k : Int) < (d.size : Int) := by omega
      have bk1 : ((k - 1 : Nat) : Int) < (d.size : Int) := by omega
      have wD := iwn (k - a) (by omega : (k : Int) - (a : Int) = ((k - a : Nat) : Int)) (by omega)
      obtain ⟨g3, g4, l1, s1, l2, s2⟩ := swp_cells (x := x) tl (show k < x.size by omega) (show k - 1 < x.size by omega)
      have hy : (swp x k (k - 1)).size = d.size := by rw [swp_size, hx]
      by_cases hdn : 2 ≤ k - a
      · have f6 : ((2 : Int) ≤ ((k - a : Nat) : Int)) = True := eq_true (by omega)
        rw [if_pos hdn] at hr
        simp only [go_sem, Nat.reduceAdd, Nat.reduceLT, Nat.reduceEqDiff, Nat.reduceBEq, Nat.reduceLeDiff, Nat.reduceSub, Int.reduceToNat, reduceCtorEq, ↓reduceIte, f2, wB, f3, decide_false, wk2, bk, bk1, g3, g4, l1, s1, l2, s2, Int.natCast_nonneg, Int.toNat_natCast, Nat.zero_add, Nat.mul_one, swp_def, wD, f6, decide_true]
        clear g3 g4 l1 s1 l2 s2
        generalize swp x k (k - 1) = y0 at hr hy ⊢
        have hy' : (shiftDown ltInt (k - 1) y0).size = d.size := by rw [shiftDown_size, hy]
        refine aw_loopB (fun m' E => ∃ (j : Nat) (z : Array Int), z.size = d.size ∧ j < b ∧ j ≤ m' ∧ shiftDown ltInt j z = shiftDown ltInt (k - 1) y0 ∧
          E = mkE [(0, dS d.size cap), (1, iI a), (2, iI b), (7, iI k), (8, iI ((5 - (s + 1) : Nat))), (9, iI j)] [(100000, dC z tl)]) b
          (mkE [(0, dS d.size cap), (1, iI a), (2, iI b), (7, iI k), (8, iI ((5 - (s + 1) : Nat)))] [(100000, dC (shiftDown ltInt (k - 1) y0) tl)]) ?_ ?_ ?_
        · exact ⟨k - 1, y0, hy, by omega, by omega, rfl, by simp only [go_sem, Nat.reduceAdd, Nat.reduceLT, Nat.reduceEqDiff, Nat.reduceBEq, Nat.reduceLeDiff, Nat.reduceSub, Int.reduceToNat, reduceCtorEq, ↓reduceIte]⟩
        · rintro m' _ ⟨j, z, hz, hkj, hm', hr', rfl⟩
          cases j with
          | zero =>
            have f5 : ((1 : Int) ≤ ((0 : Nat) : Int)) = False := eq_false (by omega)
            have e5 : shiftDown ltInt (k - 1) y0 = z := by rw [← hr']; rfl
            simp only [go_sem, Nat.reduceAdd, Nat.reduceLT, Nat.reduceEqDiff, Nat.reduceBEq, Nat.reduceLeDiff, Nat.reduceSub, Int.reduceToNat, reduceCtorEq, ↓reduceIte, f5, decide_false, e5, and_self]
          | succ j =>
            have f5 : ((1 : Int) ≤ ((j + 1 : Nat) : Int)) = True := eq_true (by omega)
            have wj := iwn j (by omega : ((j + 1 : Nat) : Int) - 1 = (j : Int)) (by omega)
            have bj : ((j + 1 : Nat) : Int) < (d.size : Int) := by omega
            have bj1 : (j : Int) < (d.size : Int) := by omega
            obtain ⟨g3, g4, l1, s1, l2, s2⟩ := swp_cells (x := z) tl (show j + 1 < z.size by omega) (show j < z.size by omega)
            simp only [go_sem, Nat.reduceAdd, Nat.reduceLT, Nat.reduceEqDiff, Nat.reduceBEq, Nat.reduceLeDiff, Nat.reduceSub, Int.reduceToNat, reduceCtorEq, ↓reduceIte, f5, decide_true, wj, bj, bj1, g3, g4, Int.natCast_nonneg, Int.toNat_natCast, Nat.zero_add, Nat.mul_one]
            refine callX_of (C_Less z[j + 1]! z[j]!) ?_
            rw [shiftDown] at hr'
            cases hl : ltInt z[j + 1]! z[j]! with
            | true =>
              rw [if_neg (by simp [hl])] at hr'
              simp only [go_sem, Nat.reduceAdd, Nat.reduceLT, Nat.reduceEqDiff, Nat.reduceBEq, Nat.reduceLeDiff, Nat.reduceSub, Int.reduceToNat, reduceCtorEq, ↓reduceIte, Bool.not_true, wj, bj, bj1, g3, g4, l1, s1, l2, s2, Int.natCast_nonneg, Int.toNat_natCast, Nat.zero_add, Nat.mul_one, swp_def]
              exact ⟨m' - 1, by omega, j, _, by rw [swp_size, hz], by omega, by omega, hr', rfl⟩
            | false =>
              rw [if_pos (by simp [hl])] at hr'
              simp only [go_sem, Nat.reduceAdd, Nat.reduceLT, Nat.reduceEqDiff, Nat.reduceBEq, Nat.reduceLeDiff, Nat.reduceSub, Int.reduceToNat, reduceCtorEq, ↓reduceIte, Bool.not_false, ← hr', and_self]
        clear hy
        generalize shiftDown ltInt (k - 1) y0 = y at hr hy' ⊢
        have hy := hy'
        have wU := iwn (b - k) (by omega : (b : Int) - (k : Int) = ((b - k : Nat) : Int)) (by omega)
        by_cases hu : 2 ≤ b - k
        · have f4 : ((2 : Int) ≤ ((b - k : Nat) : Int)) = True := eq_true (by omega)
          rw [if_pos hu] at hr
          simp only [go_sem, Nat.reduceAdd, Nat.reduceLT, Nat.reduceEqDiff, Nat.reduceBEq, Nat.reduceLeDiff, Nat.reduceSub, Int.reduceToNat, reduceCtorEq, ↓reduceIte, wU, f4, decide_true, wk1]
          refine aw_loopB (fun m' E => ∃ (j : Nat) (z : Array Int), z.size = d.size ∧ k < j ∧ b - j ≤ m' ∧ shiftUp ltInt b j z = shiftUp ltInt b (k + 1) y ∧
            E = mkE [(0, dS d.size cap), (1, iI a), (2, iI b), (7, iI k), (8, iI ((5 - (s + 1) : Nat))), (10, iI j)] [(100000, dC z tl)]) b
            (mkE [(0, dS d.size cap), (1, iI a), (2, iI b), (7, iI k), (8, iI ((5 - (s + 1) : Nat)))] [(100000, dC (shiftUp ltInt b (k + 1) y) tl)]) ?_ ?_ ?_
          · exact ⟨k + 1, y, hy, by omega, by omega, rfl, by simp only [go_sem, Nat.reduceAdd, Nat.reduceLT, Nat.reduceEqDiff, Nat.reduceBEq, Nat.reduceLeDiff, Nat.reduceSub, Int.reduceToNat, reduceCtorEq, ↓reduceIte]⟩
          · rintro m' _ ⟨j, z, hz, hkj, hm', hr', rfl⟩
            by_cases h6 : j < b
            · have f5 : ((j : Int) < (b : Int)) = True := eq_true (by omega)
              have wj := iwn (j - 1) (by omega : (j : Int) - 1 = ((j - 1 : Nat) : Int)) (by omega)
              have wj2 := iwn (j + 1) (by omega : (j : Int) + 1 = ((j + 1 : Nat) : Int)) (by omega)
              have bj : (j : Int) < (d.size : Int) := by omega
              have bj1 : ((j - 1 : Nat) : Int) < (d.size : Int) := by omega
              obtain ⟨g3, g4, l1, s1, l2, s2⟩ := swp_cells (x := z) tl (show j < z.size by omega) (show j - 1 < z.size by omega)
              simp only [go_sem, Nat.reduceAdd, Nat.reduceLT, Nat.reduceEqDiff, Nat.reduceBEq, Nat.reduceLeDiff, Nat.reduceSub, Int.reduceToNat, reduceCtorEq, ↓reduceIte, f5, decide_true, wj, bj, bj1, g3, g4, Int.natCast_nonneg, Int.toNat_natCast, Nat.zero_add, Nat.mul_one]
              refine callX_of (C_Less z[j]! z[j - 1]!) ?_
              rw [shiftUp, if_pos h6] at hr'
              cases hl : ltInt z[j]! z[j - 1]! with
              | true =>
                rw [if_neg (by simp [hl])] at hr'
                simp only [go_sem, Nat.reduceAdd, Nat.reduceLT, Nat.reduceEqDiff, Nat.reduceBEq, Nat.reduceLeDiff, Nat.reduceSub, Int.reduceToNat, reduceCtorEq, ↓reduceIte, Bool.not_true, wj, wj2, bj, bj1, g3, g4, l1, s1, l2, s2, Int.natCast_nonneg, Int.toNat_natCast, Nat.zero_add, Nat.mul_one, swp_def]
                exact ⟨m' - 1, by omega, j + 1, _, by rw [swp_size, hz], by omega, by omega, hr', rfl⟩
              | false =>
                rw [if_pos (by simp [hl])] at hr'
                simp only [go_sem, Nat.reduceAdd, Nat.reduceLT, Nat.reduceEqDiff, Nat.reduceBEq, Nat.reduceLeDiff, Nat.reduceSub, Int.reduceToNat, reduceCtorEq, ↓reduceIte, Bool.not_false, ← hr', and_self]
            · have f5 : ((j : Int) < (b : Int)) = False := eq_false (by omega)
              have e5 : shiftUp ltInt b (k + 1) y = z := by rw [← hr', shiftUp, if_neg h6]
              simp only [go_sem, Nat.reduceAdd, Nat.reduceLT, Nat.reduceEqDiff, Nat.reduceBEq, Nat.reduceLeDiff, Nat.reduceSub, Int.reduceToNat, reduceCtorEq, ↓reduceIte, f5, decide_false, e5, and_self]
          · simp only [go_sem, Nat.reduceAdd, Nat.reduceLT, Nat.reduceEqDiff, Nat.reduceBEq, Nat.reduceLeDiff, Nat.reduceSub, Int.reduceToNat, reduceCtorEq, ↓reduceIte, w5]
            exact ⟨m - 1, by omega, s, k, _, by rw [shiftUp_size, hy], by omega, by omega, by omega, by omega, hr, rfl⟩
        · have f4 : ((2 : Int) ≤ ((b - k : Nat) : Int)) = False := eq_false (by omega)
          rw [if_neg hu] at hr
          simp only [go_sem, Nat.reduceAdd, Nat.reduceLT, Nat.reduceEqDiff, Nat.reduceBEq, Nat.reduceLeDiff, Nat.reduceSub, Int.reduceToNat, reduceCtorEq, ↓reduceIte, wU, f4, decide_false, w5]
          exact ⟨m - 1, by omega, s, k, _, hy, by omega, by omega, by omega, by omega, hr, rfl⟩
      · have f6 : ((2 : Int) ≤ ((k - a : Nat) : Int)) = False := eq_false (by omega)
        rw [if_neg hdn] at hr
        simp only [go_sem, Nat.reduceAdd, Nat.reduceLT, Nat.reduceEqDiff, Nat.reduceBEq, Nat.reduceLeDiff, Nat.reduceSub, Int.reduceToNat, reduceCtorEq, ↓reduceIte, f2, wB, f3, decide_false, wk2, bk, bk1, g3, g4, l1, s1, l2, s2, Int.natCast_nonneg, Int.toNat_natCast, Nat.zero_add, Nat.mul_one, swp_def, wD, f6]
        clear g3 g4 l1 s1 l2 s2
        generalize swp x k (k - 1) = y at hr hy ⊢
        have wU := iwn (b - k) (by omega : (b : Int) - (k : Int) = ((b - k : Nat) : Int)) (by omega)
        by_cases hu : 2 ≤ b - k
        · have f4 : ((2 : Int) ≤ ((b - k : Nat) : Int)) = True := eq_true (by omega)
          rw [if_pos hu] at hr
          simp only [go_sem, Nat.reduceAdd, Nat.reduceLT, Nat.reduceEqDiff, Nat.reduceBEq, Nat.reduceLeDiff, Nat.reduceSub, Int.reduceToNat, reduceCtorEq, ↓reduceIte, wU, f4, decide_true, wk1]
          refine aw_loopB (fun m' E => ∃ (j : Nat) (z : Array Int), z.size = d.size ∧ k < j ∧ b - j ≤ m' ∧ shiftUp ltInt b j z = shiftUp ltInt b (k + 1) y ∧
            E = mkE [(0, dS d.size cap), (1, iI a), (2, iI b), (7, iI k), (8, iI ((5 - (s + 1) : Nat))), (10, iI j)] [(100000, dC z tl)]) b
            (mkE [(0, dS d.size cap), (1, iI a), (2, iI b), (7, iI k), (8, iI ((5 - (s + 1) : Nat)))] [(100000, dC (shiftUp ltInt b (k + 1) y) tl)]) ?_ ?_ ?_
          · exact ⟨k + 1, y, hy, by omega, by omega, rfl, by simp only [go_sem, Nat.reduceAdd, Nat.reduceLT, Nat.reduceEqDiff, Nat.reduceBEq, Nat.reduceLeDiff, Nat.reduceSub, Int.reduceToNat, reduceCtorEq, ↓reduceIte]⟩
          · rintro m' _ ⟨j, z, hz, hkj, hm', hr', rfl⟩
            by_cases h6 : j < b
            · have f5 : ((j : Int) < (b : Int)) = True := eq_true (by omega)
              have wj := iwn (j - 1) (by omega : (j : Int) - 1 = ((j - 1 : Nat) : Int)) (by omega)
              have wj2 := iwn (j + 1) (by omega : (j : Int) + 1 = ((j + 1 : Nat) : Int)) (by omega)
              have bj : (j : Int) < (d.size : Int) := by omega
              have bj1 : ((j - 1 : Nat) : Int) < (d.size : Int) := by omega
              obtain ⟨g3, g4, l1, s1, l2, s2⟩ := swp_cells (x := z) tl (show j < z.size by omega) (show j - 1 < z.size by omega)
              simp only [go_sem, Nat.reduceAdd, Nat.reduceLT, Nat.reduceEqDiff, Nat.reduceBEq, Nat.reduceLeDiff, Nat.reduceSub, Int.reduceToNat, reduceCtorEq, ↓reduceIte, f5, decide_true, wj, bj, bj1, g3, g4, Int.natCast_nonneg, Int.toNat_natCast, Nat.zero_add, Nat.mul_one]
              refine callX_of (C_Less z[j]! z[j - 1]!) ?_
              rw [shiftUp, if_pos h6] at hr'
              cases hl : ltInt z[j]! z[j - 1]! with
              | true =>
                rw [if_neg (by simp [hl])] at hr'
                simp only [go_sem, Nat.reduceAdd, Nat.reduceLT, Nat.reduceEqDiff, Nat.reduceBEq, Nat.reduceLeDiff, Nat.reduceSub, Int.reduceToNat, reduceCtorEq, ↓reduceIte, Bool.not_true, wj, wj2, bj, bj1, g3, g4, l1, s1, l2, s2, Int.natCast_nonneg, Int.toNat_natCast, Nat.zero_add, Nat.mul_one, swp_def]
                exact ⟨m' - 1, by omega, j + 1, _, by rw [swp_size, hz], by omega, by omega, hr', rfl⟩
              | false =>
                rw [if_pos (by simp [hl])] at hr'
                simp only [go_sem, Nat.reduceAdd, Nat.reduceLT, Nat.reduceEqDiff, Nat.reduceBEq, Nat.reduceLeDiff, Nat.reduceSub, Int.reduceToNat, reduceCtorEq, ↓reduceIte, Bool.not_false, ← hr', and_self]
            · have f5 : ((j : Int) < (b : Int)) = False := eq_false (by omega)
              have e5 : shiftUp ltInt b (k + 1) y = z := by rw [← hr', shiftUp, if_neg h6]
              simp only [go_sem, Nat.reduceAdd, Nat.reduceLT, Nat.reduceEqDiff, Nat.reduceBEq, Nat.reduceLeDiff, Nat.reduceSub, Int.reduceToNat, reduceCtorEq, ↓reduceIte, f5, decide_false, e5, and_self]
          · simp only [go_sem, Nat.reduceAdd, Nat.reduceLT, Nat.reduceEqDiff, Nat.reduceBEq, Nat.reduceLeDiff, Nat.reduceSub, Int.reduceToNat, reduceCtorEq, ↓reduceIte, w5]
            exact ⟨m - 1, by omega, s, k, _, by rw [shiftUp_size, hy], by omega, by omega, by omega, by omega, hr, rfl⟩
        · have f4 : ((2 : Int) ≤ ((b - k : Nat) : Int)) = False := eq_false (by omega)
          rw [if_neg hu] at hr
          simp only [go_sem, Nat.reduceAdd, Nat.reduceLT, Nat.reduceEqDiff, Nat.reduceBEq, Nat.reduceLeDiff, Nat.reduceSub, Int.reduceToNat, reduceCtorEq, ↓reduceIte, wU, f4, decide_false, w5]
          exact ⟨m - 1, by omega, s, k, _, hy, by omega, by omega, by omega, by omega, hr, rfl⟩

end Go.Proofs.Ytmjmfollimaleaa.VL
