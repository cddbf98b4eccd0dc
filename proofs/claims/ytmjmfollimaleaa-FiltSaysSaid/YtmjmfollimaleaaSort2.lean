/- slices.Sort over addresses, part 2: siftDown, heapSort: contracts. -/
import Derived.Test.YtmjmfollimaleaaSort1
set_option linter.unusedVariables false
set_option linter.unusedSimpArgs false
set_option maxHeartbeats 4000000
namespace Go.Proofs.Ytmjmfollimaleaa.VL
open Go.RowKit Go.Proofs Go.Sort

/-- One exchange in a row. -/
theorem swp_cells {x : Array Int} (tl : List AV) {i j : Nat} (hi : i < x.size) (hj : j < x.size) :
    aval.ld false 1 ((dC x tl).drop i) = some (aI x[i]!) ∧ aval.ld false 1 ((dC x tl).drop j) = some (aI x[j]!) ∧ i + 1 ≤ (dC x tl).length ∧ (dC x tl).take i ++ [aI x[j]!] ++ (dC x tl).drop (i + 1) = dC (x.setIfInBounds i x[j]!) tl ∧
    j + 1 ≤ (dC (x.setIfInBounds i x[j]!) tl).length ∧ (dC (x.setIfInBounds i x[j]!) tl).take j ++ [aI x[i]!] ++ (dC (x.setIfInBounds i x[j]!) tl).drop (j + 1) = dC ((x.setIfInBounds i x[j]!).setIfInBounds j x[i]!) tl :=
  ⟨dC_ld tl hi, dC_ld tl hj, by rw [dC_len]; omega, dC_set tl hi _, by rw [dC_len, Array.size_setIfInBounds]; omega, dC_set (d := x.setIfInBounds i x[j]!) tl (by rw [Array.size_setIfInBounds]; exact hj) _⟩

theorem C_siftDown {d : Array Int} {lo hi first cap : Nat} {tl : List AV} (ht : Tl tl) (hb : first + hi ≤ d.size) (hd : d.size ≤ 255) (hlo : lo ≤ 255) :
    AM Try.prog f_slices_siftDownOrdered_api_Addr [dS d.size cap, iI lo, iI hi, iI first] [(100000, dC d tl)] (.tup []) [(100000, dC (siftDown ltInt hi first lo d) tl)] := by
  refine am_slices_siftDownOrdered_api_Addr ?_ (by simp) (Nat.le_add_left 4 _)
  simp only [go_sem, Nat.reduceAdd, Nat.reduceLT, Nat.reduceEqDiff, Nat.reduceBEq, Nat.reduceLeDiff, Nat.reduceSub, Int.reduceToNat, reduceCtorEq, ↓reduceIte, env0M_mk, c_slices_siftDownOrdered_api_Addr, List.map_cons, List.map_nil]
  refine aw_loop (fun m E => ∃ (r : Nat) (x : Array Int), x.size = d.size ∧ r ≤ 255 ∧ hi - r ≤ m ∧ siftDown ltInt hi first r x = siftDown ltInt hi first lo d ∧
    E = mkE [(0, dS d.size cap), (2, iI hi), (3, iI first), (8, iI r)] [(100000, dC x tl)]) (hi - lo) ?_ ?_
  · exact ⟨lo, d, rfl, hlo, by omega, rfl, by simp only [go_sem, Nat.reduceAdd, Nat.reduceLT, Nat.reduceEqDiff, Nat.reduceBEq, Nat.reduceLeDiff, Nat.reduceSub, Int.reduceToNat, reduceCtorEq, ↓reduceIte]⟩
  · rintro m _ ⟨r, x, hx, hr255, hm, hr, rfl⟩
    have w1 := iwn (2 * r) (by omega : (2 : Int) * (r : Int) = ((2 * r : Nat) : Int)) (by omega)
    have w2 := iwn (2 * r + 1) (by omega : ((2 * r : Nat) : Int) + 1 = ((2 * r + 1 : Nat) : Int)) (by omega)
    by_cases h : hi ≤ 2 * r + 1
    · have f1 : ((hi : Int) ≤ ((2 * r + 1 : Nat) : Int)) = True := eq_true (by omega)
      have e : siftDown ltInt hi first r x = x := by rw [siftDown, dif_pos h]
      rw [e] at hr
      simp only [go_sem, Nat.reduceAdd, Nat.reduceLT, Nat.reduceEqDiff, Nat.reduceBEq, Nat.reduceLeDiff, Nat.reduceSub, Int.reduceToNat, reduceCtorEq, ↓reduceIte, w1, w2, f1, decide_true, endM_n, endM_r, ← hr, retC_dC ht, and_self]
    · have f1 : ((hi : Int) ≤ ((2 * r + 1 : Nat) : Int)) = False := eq_false (by omega)
      have w3 := iwn (2 * r + 2) (by omega : ((2 * r + 1 : Nat) : Int) + 1 = ((2 * r + 2 : Nat) : Int)) (by omega)
      have w4 := iwn (first + r) (by omega : (first : Int) + (r : Int) = ((first + r : Nat) : Int)) (by omega)
      have bR : ((first + r : Nat) : Int) < (d.size : Int) := by omega
      rw [siftDown, dif_neg h] at hr
      by_cases h2 : 2 * r + 2 < hi
      · have f2 : (((2 * r + 2 : Nat) : Int) < (hi : Int)) = True := eq_true (by omega)
        have w5 := iwn (first + (2 * r + 1)) (by omega : (first : Int) + ((2 * r + 1 : Nat) : Int) = ((first + (2 * r + 1) : Nat) : Int)) (by omega)
        have w6 := iwn (first + (2 * r + 2)) (by omega : ((first + (2 * r + 1) : Nat) : Int) + 1 = ((first + (2 * r + 2) : Nat) : Int)) (by omega)
        have w7 := iwn (first + (2 * r + 2)) (by omega : (first : Int) + ((2 * r + 2 : Nat) : Int) = ((first + (2 * r + 2) : Nat) : Int)) (by omega)
        have b1 : ((first + (2 * r + 1) : Nat) : Int) < (d.size : Int) := by omega
        have b2 : ((first + (2 * r + 2) : Nat) : Int) < (d.size : Int) := by omega
        obtain ⟨g1, g2, _⟩ := swp_cells tl (show first + (2 * r + 1) < x.size by omega) (show first + (2 * r + 2) < x.size by omega)
        simp only [go_sem, Nat.reduceAdd, Nat.reduceLT, Nat.reduceEqDiff, Nat.reduceBEq, Nat.reduceLeDiff, Nat.reduceSub, Int.reduceToNat, reduceCtorEq, ↓reduceIte, w1, w2, w3, w5, w6, f1, f2, decide_true, decide_false, b1, b2, g1, g2, Int.natCast_nonneg, Int.toNat_natCast, Nat.zero_add, Nat.mul_one]
        refine callX_of (C_Less x[first + (2 * r + 1)]! x[first + (2 * r + 2)]!) ?_
        cases hlt : ltInt x[first + (2 * r + 1)]! x[first + (2 * r + 2)]! with
        | true =>
          rw [if_pos (by simp only [Bool.and_eq_true, decide_eq_true_eq]; exact ⟨by omega, hlt⟩)] at hr
          rw [dif_pos h2] at hr
          obtain ⟨g3, g4, l1, s1, l2, s2⟩ := swp_cells tl (show first + r < x.size by omega) (show first + (2 * r + 2) < x.size by omega)
          simp only [go_sem, Nat.reduceAdd, Nat.reduceLT, Nat.reduceEqDiff, Nat.reduceBEq, Nat.reduceLeDiff, Nat.reduceSub, Int.reduceToNat, reduceCtorEq, ↓reduceIte, w1, w2, w3, w4, w7, b2, bR, g3, g4, Int.natCast_nonneg, Int.toNat_natCast, Nat.zero_add, Nat.mul_one]
          refine callX_of (C_Less x[first + r]! x[first + (2 * r + 2)]!) ?_
          cases hl2 : ltInt x[first + r]! x[first + (2 * r + 2)]! with
          | true =>
            rw [if_neg (by simp [hl2])] at hr
            simp only [go_sem, Nat.reduceAdd, Nat.reduceLT, Nat.reduceEqDiff, Nat.reduceBEq, Nat.reduceLeDiff, Nat.reduceSub, Int.reduceToNat, reduceCtorEq, ↓reduceIte, w4, w7, b2, bR, g3, g4, l1, s1, l2, s2, Int.natCast_nonneg, Int.toNat_natCast, Nat.zero_add, Nat.mul_one, swp_def]
            exact ⟨m - 1, by omega, 2 * r + 2, _, by rw [swp_size, hx], by omega, by omega, hr, rfl⟩
          | false =>
            rw [if_pos (by simp [hl2])] at hr
            simp only [go_sem, Nat.reduceAdd, Nat.reduceLT, Nat.reduceEqDiff, Nat.reduceBEq, Nat.reduceLeDiff, Nat.reduceSub, Int.reduceToNat, reduceCtorEq, ↓reduceIte, endM_n, endM_r, ← hr, retC_dC ht, and_self]
        | false =>
          rw [if_neg (by rw [show first + (2 * r + 1) + 1 = first + (2 * r + 2) by omega, hlt]; simp)] at hr
          obtain ⟨g3, g4, l1, s1, l2, s2⟩ := swp_cells tl (show first + r < x.size by omega) (show first + (2 * r + 1) < x.size by omega)
          simp only [go_sem, Nat.reduceAdd, Nat.reduceLT, Nat.reduceEqDiff, Nat.reduceBEq, Nat.reduceLeDiff, Nat.reduceSub, Int.reduceToNat, reduceCtorEq, ↓reduceIte, w1, w2, w3, w4, w5, b1, bR, g3, g4, Int.natCast_nonneg, Int.toNat_natCast, Nat.zero_add, Nat.mul_one]
          refine callX_of (C_Less x[first + r]! x[first + (2 * r + 1)]!) ?_
          cases hl2 : ltInt x[first + r]! x[first + (2 * r + 1)]! with
          | true =>
            rw [if_neg (by simp [hl2])] at hr
            simp only [go_sem, Nat.reduceAdd, Nat.reduceLT, Nat.reduceEqDiff, Nat.reduceBEq, Nat.reduceLeDiff, Nat.reduceSub, Int.reduceToNat, reduceCtorEq, ↓reduceIte, w4, w5, b1, bR, g3, g4, l1, s1, l2, s2, Int.natCast_nonneg, Int.toNat_natCast, Nat.zero_add, Nat.mul_one, swp_def]
            exact ⟨m - 1, by omega, 2 * r + 1, _, by rw [swp_size, hx], by omega, by omega, hr, rfl⟩
          | false =>
            rw [if_pos (by simp [hl2])] at hr
            simp only [go_sem, Nat.reduceAdd, Nat.reduceLT, Nat.reduceEqDiff, Nat.reduceBEq, Nat.reduceLeDiff, Nat.reduceSub, Int.reduceToNat, reduceCtorEq, ↓reduceIte, endM_n, endM_r, ← hr, retC_dC ht, and_self]
      · have f2 : (((2 * r + 2 : Nat) : Int) < (hi : Int)) = False := eq_false (by omega)
        have w5 := iwn (first + (2 * r + 1)) (by omega : (first : Int) + ((2 * r + 1 : Nat) : Int) = ((first + (2 * r + 1) : Nat) : Int)) (by omega)
        have b1 : ((first + (2 * r + 1) : Nat) : Int) < (d.size : Int) := by omega
        rw [if_neg (by simp; omega)] at hr
        obtain ⟨g3, g4, l1, s1, l2, s2⟩ := swp_cells tl (show first + r < x.size by omega) (show first + (2 * r + 1) < x.size by omega)
        simp only [go_sem, Nat.reduceAdd, Nat.reduceLT, Nat.reduceEqDiff, Nat.reduceBEq, Nat.reduceLeDiff, Nat.reduceSub, Int.reduceToNat, reduceCtorEq, ↓reduceIte, w1, w2, w3, w4, w5, f1, f2, decide_true, decide_false, b1, bR, g3, g4, Int.natCast_nonneg, Int.toNat_natCast, Nat.zero_add, Nat.mul_one]
        refine callX_of (C_Less x[first + r]! x[first + (2 * r + 1)]!) ?_
        cases hl2 : ltInt x[first + r]! x[first + (2 * r + 1)]! with
        | true =>
          rw [if_neg (by simp [hl2])] at hr
          simp only [go_sem, Nat.reduceAdd, Nat.reduceLT, Nat.reduceEqDiff, Nat.reduceBEq, Nat.reduceLeDiff, Nat.reduceSub, Int.reduceToNat, reduceCtorEq, ↓reduceIte, w4, w5, b1, bR, g3, g4, l1, s1, l2, s2, Int.natCast_nonneg, Int.toNat_natCast, Nat.zero_add, Nat.mul_one, swp_def]
          exact ⟨m - 1, by omega, 2 * r + 1, _, by rw [swp_size, hx], by omega, by omega, hr, rfl⟩
        | false =>
          rw [if_pos (by simp [hl2])] at hr
          simp only [go_sem, Nat.reduceAdd, Nat.reduceLT, Nat.reduceEqDiff, Nat.reduceBEq, Nat.reduceLeDiff, Nat.reduceSub, Int.reduceToNat, reduceCtorEq, ↓reduceIte, endM_n, endM_r, ← hr, retC_dC ht, and_self]

theorem siftDown_size {lt : Int → Int → Bool} (hi first : Nat) : ∀ (n r : Nat) (x : Array Int), hi - r ≤ n → (siftDown lt hi first r x).size = x.size := by
  intro n
  induction n with
  | zero =>
    intro r x h
    rw [siftDown, dif_pos (by omega)]
  | succ n ih =>
    intro r x h
    rw [siftDown]
    split
    · rfl
    · split
      · split
        · rfl
        · split
          · rw [ih _ _ (by omega), swp_size]
          · rfl
      · split
        · rfl
        · rw [ih _ _ (by omega), swp_size]

theorem C_heap {d : Array Int} {a b cap : Nat} {tl : List AV} (ht : Tl tl) (hab : a < b) (hb : b ≤ d.size) (hd : d.size ≤ 255) :
    AM Try.prog f_slices_heapSortOrdered_api_Addr [dS d.size cap, iI a, iI b] [(100000, dC d tl)] (.tup []) [(100000, dC (heapSort ltInt d a b) tl)] := by
  refine am_slices_heapSortOrdered_api_Addr ?_ (by simp) (Nat.le_add_left 3 _)
  have wq : ((b - a - 1 : Nat) : Int).tdiv 2 = (((b - a - 1) / 2 : Nat) : Int) := by
    rw [Int.tdiv_eq_ediv_of_nonneg (by omega)]
    omega
  have w2 : IntKind.i64.wrap (((b - a - 1) / 2 : Nat) : Int) = (((b - a - 1) / 2 : Nat) : Int) := iwn _ rfl (by omega)
  simp only [go_sem, Nat.reduceAdd, Nat.reduceLT, Nat.reduceEqDiff, Nat.reduceBEq, Nat.reduceLeDiff, Nat.reduceSub, Int.reduceToNat, reduceCtorEq, ↓reduceIte, env0M_mk, c_slices_heapSortOrdered_api_Addr, List.map_cons, List.map_nil, iwn (b - a) (by omega : (b : Int) - (a : Int) = ((b - a : Nat) : Int)) (by omega), iwn (b - a - 1) (by omega : ((b - a : Nat) : Int) - 1 = ((b - a - 1 : Nat) : Int)) (by omega), wq, w2, show ((2 : Int) == 0) = false from rfl]
  have hsz : (heapBuild ltInt (b - a) a ((b - a - 1) / 2 + 1) d).size = d.size := by
    generalize (b - a - 1) / 2 + 1 = k
    clear wq w2 hb hd
    induction k generalizing d with
    | zero => rfl
    | succ k ih => rw [heapBuild, ih, siftDown_size _ _ _ _ _ (Nat.le_refl _)]
  have hH : heapSort ltInt d a b = heapPop ltInt a (b - a) (heapBuild ltInt (b - a) a ((b - a - 1) / 2 + 1) d) := rfl
  rw [hH]
  refine aw_loop (fun m E => ∃ (k : Nat) (x : Array Int), x.size = d.size ∧ k ≤ m ∧ k ≤ 255 ∧ heapBuild ltInt (b - a) a k x = heapBuild ltInt (b - a) a ((b - a - 1) / 2 + 1) d ∧
    E = mkE [(0, dS d.size cap), (6, iI a), (7, iI 0), (8, iI (b - a : Nat)), (9, iI ((k : Int) - 1))] [(100000, dC x tl)]) ((b - a - 1) / 2 + 1) ?_ ?_
  · refine ⟨(b - a - 1) / 2 + 1, d, rfl, Nat.le_refl _, by omega, rfl, ?_⟩
    simp only [go_sem, Nat.reduceAdd, Nat.reduceLT, Nat.reduceEqDiff, Nat.reduceBEq, Nat.reduceLeDiff, Nat.reduceSub, Int.reduceToNat, reduceCtorEq, ↓reduceIte, show (((b - a - 1) / 2 + 1 : Nat) : Int) - 1 = (((b - a - 1) / 2 : Nat) : Int) by omega]
  · rintro m _ ⟨k, x, hx, hm, hk255, hr, rfl⟩
    cases k with
    | succ k =>
      have e1 : ((k + 1 : Nat) : Int) - 1 = (k : Int) := by omega
      have f1 : ((0 : Int) ≤ (k : Int)) = True := eq_true (by omega)
      have hC := C_siftDown (lo := k) (hi := b - a) (first := a) (cap := cap) (d := x) ht (by omega) (by omega) (by omega)
      rw [hx] at hC
      simp only [go_sem, Nat.reduceAdd, Nat.reduceLT, Nat.reduceEqDiff, Nat.reduceBEq, Nat.reduceLeDiff, Nat.reduceSub, Int.reduceToNat, reduceCtorEq, ↓reduceIte, e1, f1, decide_true]
      refine callD_of ht rfl hC ?_
      simp only [go_sem, Nat.reduceAdd, Nat.reduceLT, Nat.reduceEqDiff, Nat.reduceBEq, Nat.reduceLeDiff, Nat.reduceSub, Int.reduceToNat, reduceCtorEq, ↓reduceIte, iw ((k : Int) - 1) (by omega) (by omega)]
      exact ⟨m - 1, by omega, k, _, by rw [siftDown_size _ _ _ _ _ (Nat.le_refl _), hx], by omega, by omega, hr, rfl⟩
    | zero =>
      have e : x = heapBuild ltInt (b - a) a ((b - a - 1) / 2 + 1) d := by rw [← hr]; rfl
      rw [← e] at hsz ⊢
      clear hr e
      have f1 : ((0 : Int) ≤ ((0 : Nat) : Int) - 1) = False := eq_false (by omega)
      simp only [go_sem, Nat.reduceAdd, Nat.reduceLT, Nat.reduceEqDiff, Nat.reduceBEq, Nat.reduceLeDiff, Nat.reduceSub, Int.reduceToNat, reduceCtorEq, ↓reduceIte, f1, decide_false, iwn (b - a - 1) (by omega : ((b - a : Nat) : Int) - 1 = ((b - a - 1 : Nat) : Int)) (by omega)]
      refine aw_loop (fun m E => ∃ (k : Nat) (y : Array Int), y.size = d.size ∧ k ≤ m ∧ k ≤ b - a ∧ heapPop ltInt a k y = heapPop ltInt a (b - a) x ∧
        E = mkE [(0, dS d.size cap), (6, iI a), (7, iI 0), (10, iI ((k : Int) - 1))] [(100000, dC y tl)]) (b - a) ?_ ?_
      · refine ⟨b - a, x, hsz, Nat.le_refl _, Nat.le_refl _, rfl, ?_⟩
        simp only [go_sem, Nat.reduceAdd, Nat.reduceLT, Nat.reduceEqDiff, Nat.reduceBEq, Nat.reduceLeDiff, Nat.reduceSub, Int.reduceToNat, reduceCtorEq, ↓reduceIte, show ((b - a : Nat) : Int) - 1 = ((b - a - 1 : Nat) : Int) by omega]
      · rintro m _ ⟨k, y, hy, hm, hk, hr, rfl⟩
        cases k with
        | zero =>
          have e : y = heapPop ltInt a (b - a) x := by rw [← hr]; rfl
          rw [← e]
          have f1 : ((0 : Int) ≤ ((0 : Nat) : Int) - 1) = False := eq_false (by omega)
          simp only [go_sem, Nat.reduceAdd, Nat.reduceLT, Nat.reduceEqDiff, Nat.reduceBEq, Nat.reduceLeDiff, Nat.reduceSub, Int.reduceToNat, reduceCtorEq, ↓reduceIte, f1, decide_false, endM_n, endM_r, retC_dC ht, and_self]
        | succ k =>
          have e1 : ((k + 1 : Nat) : Int) - 1 = (k : Int) := by omega
          have f1 : ((0 : Int) ≤ (k : Int)) = True := eq_true (by omega)
          have w4 := iwn (a + k) (by omega : (a : Int) + (k : Int) = ((a + k : Nat) : Int)) (by omega)
          obtain ⟨g1, g2, l1, s1, l2, s2⟩ := swp_cells tl (show a < y.size by omega) (show a + k < y.size by omega)
          have b1 : (a : Int) < (d.size : Int) := by omega
          have b2 : ((a + k : Nat) : Int) < (d.size : Int) := by omega
          have hC := C_siftDown (lo := 0) (hi := k) (first := a) (cap := cap) (d := swp y a (a + k)) ht (by rw [swp_size]; omega) (by rw [swp_size]; omega) (by omega)
          rw [swp_size, hy] at hC
          simp only [go_sem, Nat.reduceAdd, Nat.reduceLT, Nat.reduceEqDiff, Nat.reduceBEq, Nat.reduceLeDiff, Nat.reduceSub, Int.reduceToNat, reduceCtorEq, ↓reduceIte, e1, f1, w4, b1, b2, g1, g2, l1, s1, l2, s2, decide_true, Int.natCast_nonneg, Int.toNat_natCast, Nat.zero_add, Nat.mul_one, swp_def]
          refine callD_of ht rfl hC ?_
          simp only [go_sem, Nat.reduceAdd, Nat.reduceLT, Nat.reduceEqDiff, Nat.reduceBEq, Nat.reduceLeDiff, Nat.reduceSub, Int.reduceToNat, reduceCtorEq, ↓reduceIte, iw ((k : Int) - 1) (by omega) (by omega)]
          exact ⟨m - 1, by omega, k, _, by rw [siftDown_size _ _ _ _ _ (Nat.le_refl _), swp_size, hy], by omega, by omega, hr, rfl⟩

end Go.Proofs.Ytmjmfollimaleaa.VL
