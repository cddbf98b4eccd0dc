/- Sorting, part 8: slices.Compact: a contract; each once. -/
import Derived.Test.YtmjmfollimaleaaSort7
set_option linter.unusedVariables false
set_option linter.unusedSimpArgs false
set_option maxHeartbeats 4000000
namespace Go.Proofs.Ytmjmfollimaleaa.VL
open Go.RowKit Go.Proofs Go.Sort

/-- Equal neighbours told once. -/
def dd : List Int → List Int
  | [] => []
  | [a] => [a]
  | a :: b :: t => if a = b then dd (b :: t) else a :: dd (b :: t)

theorem dd_snoc (b c : Int) : ∀ l : List Int, dd (l ++ [b, c]) = if b = c then dd (l ++ [b]) else dd (l ++ [b]) ++ [c]
  | [] => by
    simp only [List.nil_append, dd]
    split
    · rename_i h; rw [h]
    · rfl
  | [a] => by
    simp only [List.cons_append, List.nil_append, dd]
    by_cases h : b = c <;> by_cases h2 : a = b <;> simp [h, h2]
  | a :: a' :: l => by
    have ih := dd_snoc b c (a' :: l)
    simp only [List.cons_append] at ih ⊢
    simp only [dd]
    by_cases h2 : a = a'
    · simp only [if_pos h2]; exact ih
    · simp only [if_neg h2]
      rw [ih]
      by_cases h : b = c
      · simp only [if_pos h]
      · simp only [if_neg h]; rfl

/-- One more of a list. -/
theorem take_succ_get {x : Array Int} {j : Nat} (h : j < x.size) : x.toList.take (j + 1) = x.toList.take j ++ [x[j]!] := by
  rw [List.take_add_one]
  simp [h]
theorem dd_take {x : Array Int} {j : Nat} (h0 : 1 ≤ j) (h : j < x.size) : dd (x.toList.take (j + 1)) = if x[j - 1]! = x[j]! then dd (x.toList.take j) else dd (x.toList.take j) ++ [x[j]!] := by
  obtain ⟨i, rfl⟩ : ∃ i, j = i + 1 := ⟨j - 1, by omega⟩
  rw [take_succ_get h, take_succ_get (show i < x.size by omega), List.append_assoc]
  exact dd_snoc _ _ _

/-- A row as far as it is compact. -/
structure CI (o : Array Int) (j k : Nat) (x : Array Int) : Prop where
  size : x.size = o.size
  lt : k < j
  le : j ≤ o.size
  pre : x.toList.take k = dd (o.toList.take j)
  post : ∀ i, k ≤ i → x[i]! = o[i]!

theorem set_get_ne {x : Array Int} {k i : Nat} (v : Int) (h : k ≠ i) : (x.setIfInBounds k v)[i]! = x[i]! := by
  rw [Array.getElem!_eq_getD, Array.getElem!_eq_getD, Array.getD_eq_getD_getElem?, Array.getD_eq_getD_getElem?, Array.getElem?_setIfInBounds_ne h]
theorem set_get_self {x : Array Int} {k : Nat} (v : Int) (h : k < x.size) : (x.setIfInBounds k v)[k]! = v := by
  rw [Array.getElem!_eq_getD, Array.getD_eq_getD_getElem?, Array.getElem?_setIfInBounds_self_of_lt h]
  rfl

theorem CI.step_eq {o x : Array Int} {j k : Nat} (h : CI o j k x) (hj : j < o.size) (he : x[j]! = x[j - 1]!) : CI o (j + 1) k x := by
  have hl := h.lt
  refine ⟨h.size, by omega, hj, ?_, h.post⟩
  rw [h.post j (by omega), h.post (j - 1) (by omega)] at he
  rw [h.pre, dd_take (by omega) hj, if_pos he.symm]
theorem CI.step_ne {o x : Array Int} {j k : Nat} (h : CI o j k x) (hj : j < o.size) (he : x[j]! ≠ x[j - 1]!) : CI o (j + 1) (k + 1) (x.setIfInBounds k x[j]!) := by
  have hl := h.lt
  have hs := h.size
  refine ⟨by rw [Array.size_setIfInBounds, h.size], by omega, hj, ?_, fun i hi => ?_⟩
  · rw [h.post j (by omega), h.post (j - 1) (by omega)] at he
    rw [dd_take (by omega) hj, if_neg (fun e => he e.symm), ← h.pre, take_succ_get (by rw [Array.size_setIfInBounds]; omega), set_get_self _ (by omega), h.post j (by omega)]
    congr 1
    rw [Array.toList_setIfInBounds, List.take_set, List.set_eq_of_length_le (by simp; omega)]
  · rw [set_get_ne _ (by omega)]
    exact h.post i (by omega)

theorem dd_len : ∀ l : List Int, (dd l).length ≤ l.length
  | [] => Nat.le_refl _
  | [a] => Nat.le_refl _
  | a :: b :: t => by
    have := dd_len (b :: t)
    simp only [dd]
    split <;> simp at this ⊢ <;> omega

theorem bne_int (a b : Int) : (a != b) = !(decide (a = b)) := by
  by_cases h : a = b <;> simp [h]

/-- A loop that ends at one place, in a state of one kind, but for what is dead there. -/
theorem aw_loopF {P : Program} {a : ACode} {kl dl kb : List Nat} {i : Nat} {E : Env} {Q : AExit → Env → Prop} (I : Nat → Env → Prop) (n : Nat) (F : Env → Prop) (h0 : I n ((E.dropS kl).freshL dl))
    (h : ∀ m E', I m E' → aw P a E' (thenQ (fun E'' => ∃ k, k < m ∧ I k ((E''.dropS kl).freshL dl)) (fun ex E'' => ex = .exit i ∧ F (E''.dropS kb)))) (hF : ∀ E', F E' → Q .normal E') : aw P (.loop a kl dl) E (blockQ i kb Q) :=
  aw_mono _ (Q := fun ex E'' => ex = .exit i ∧ F (E''.dropS kb)) (fun ex E'' h => by
    obtain ⟨rfl, h⟩ := h
    show if i = i then _ else _
    rw [if_pos rfl]
    exact hF _ h) (aw_loop I n h0 h)

theorem C_Compact {d : Array Int} {cap : Nat} {tl : List AV} (ht : Tl tl) (hc : d.size ≤ cap) (hd : d.size ≤ 255) :
    AM Try.prog f_slices_Compact_api_Addr_api_Addr [dS d.size cap] [(100000, dC d tl)] (dS (dd d.toList).length cap)
      [(100000, (dd d.toList).map aI ++ (List.replicate (d.size - (dd d.toList).length) (aI 0) ++ tl))] := by
  refine am_slices_Compact_api_Addr_api_Addr ?_ (by simp) (Nat.le_add_left 1 _)
  simp only [go_sem, Nat.reduceAdd, Nat.reduceLT, Nat.reduceEqDiff, Nat.reduceBEq, Nat.reduceLeDiff, Nat.reduceSub, Int.reduceToNat, reduceCtorEq, ↓reduceIte, env0M_mk, c_slices_Compact_api_Addr_api_Addr, List.map_cons, List.map_nil]
  have whole : dd d.toList = d.toList → retC (mkE [(2, dS d.size cap)] [(100000, dC d tl)]) [100000] = some [(100000, (dd d.toList).map aI ++ (List.replicate (d.size - (dd d.toList).length) (aI 0) ++ tl))] := by
    intro e
    rw [retC_dC ht, e]
    simp [dC]
  by_cases h2 : d.size < 2
  · have f1 : ((d.size : Int) < 2) = True := eq_true (by omega)
    have e : dd d.toList = d.toList := by
      match hq : d.toList with
      | [] => rfl
      | [a] => rfl
      | a :: b :: t => have := congrArg List.length hq; simp at this; omega
    simp only [go_sem, Nat.reduceAdd, Nat.reduceLT, Nat.reduceEqDiff, Nat.reduceBEq, Nat.reduceLeDiff, Nat.reduceSub, Int.reduceToNat, reduceCtorEq, ↓reduceIte, f1, decide_true]
    refine shiftX_refl ?_
    simp only [go_sem, Nat.reduceAdd, Nat.reduceLT, Nat.reduceEqDiff, Nat.reduceBEq, Nat.reduceLeDiff, Nat.reduceSub, Int.reduceToNat, reduceCtorEq, ↓reduceIte, endM_n, endM_r]
    refine ⟨?_, whole e⟩
    rw [e]
    simp
    done
  have f1 : ((d.size : Int) < 2) = False := eq_false (by omega)
  simp only [go_sem, Nat.reduceAdd, Nat.reduceLT, Nat.reduceEqDiff, Nat.reduceBEq, Nat.reduceLeDiff, Nat.reduceSub, Int.reduceToNat, reduceCtorEq, ↓reduceIte, f1, decide_false]
  refine aw_loop (fun m E => ∃ i, 1 ≤ i ∧ i ≤ d.size ∧ d.size - i ≤ m ∧ dd (d.toList.take i) = d.toList.take i ∧ E = mkE [(0, dS d.size cap), (3, iI i)] [(100000, dC d tl)]) d.size ?_ ?_
  · refine ⟨1, Nat.le_refl _, by omega, by omega, ?_, by simp only [go_sem, Nat.reduceAdd, Nat.reduceLT, Nat.reduceEqDiff, Nat.reduceBEq, Nat.reduceLeDiff, Nat.reduceSub, Int.reduceToNat, reduceCtorEq, ↓reduceIte, Int.natCast_one]⟩
    match hq : d.toList with
    | [] => rfl
    | a :: t => rfl
  · rintro m _ ⟨i, h1, hi, hm, hdd, rfl⟩
    by_cases hin : i < d.size
    · have f2 : ((i : Int) < (d.size : Int)) = True := eq_true (by omega)
      have w1 := iwn (i - 1) (by omega : (i : Int) - 1 = ((i - 1 : Nat) : Int)) (by omega)
      have w2 := iwn (i + 1) (by omega : (i : Int) + 1 = ((i + 1 : Nat) : Int)) (by omega)
      have b1 : ((i - 1 : Nat) : Int) < (d.size : Int) := by omega
      have g1 := dC_ld tl hin
      have g2 := dC_ld tl (show i - 1 < d.size by omega)
      by_cases heq : d[i]! = d[i - 1]!
      · have f3 : (d[i]! == d[i - 1]!) = true := by simp [heq]
        have hsl : 0 ≤ (i : Int) ∧ (i : Int) ≤ (d.size : Int) ∧ (d.size : Int) ≤ (d.size : Int) ∧ ((i : Int) < cap ∨ (i : Int) = 0) ∧ d.size ≤ cap := by omega
        have hCI : CI d (i + 1) i d := ⟨rfl, by omega, by omega, by rw [dd_take h1 hin, if_pos heq.symm, hdd], fun _ _ => rfl⟩
        simp only [go_sem, Nat.reduceAdd, Nat.reduceLT, Nat.reduceEqDiff, Nat.reduceBEq, Nat.reduceLeDiff, Nat.reduceSub, Int.reduceToNat, reduceCtorEq, ↓reduceIte, f2, decide_true, w1, b1, g1, g2, f3, Int.natCast_nonneg, Int.toNat_natCast, Nat.zero_add, Nat.mul_one, avSlM_some 1 100000 0 d.size cap false (i : Int) (d.size : Int) hsl]
        refine aw_loopF (fun m' E => ∃ (j k : Nat) (x : Array Int), CI d (i + j) k x ∧ d.size - (i + j) ≤ m' ∧ 1 ≤ j ∧ i ≤ k ∧ E = mkE [(0, dS d.size cap), (3, iI k), (4, .ml 100000 i (d.size - i) (cap - i) false 1), (5, iI j)] [(100000, dC x tl)]) d.size
          (fun E' => ∃ (k : Nat) (x : Array Int), i ≤ k ∧ CI d d.size k x ∧ E' = mkE [(0, dS d.size cap), (3, iI k)] [(100000, dC x tl)]) ?_ ?_ ?_
        · exact ⟨1, i, d, hCI, by omega, Nat.le_refl _, Nat.le_refl _, by simp only [go_sem, Nat.reduceAdd, Nat.reduceLT, Nat.reduceEqDiff, Nat.reduceBEq, Nat.reduceLeDiff, Nat.reduceSub, Int.reduceToNat, reduceCtorEq, ↓reduceIte, Int.natCast_one]⟩
        · rintro m' _ ⟨j, k, x, hx, hm', hj1, hik, rfl⟩
          have hle := hx.le
          have hlt := hx.lt
          have hsz := hx.size
          by_cases hjn : i + j < d.size
          · have f4 : ((j : Int) < ((d.size - i : Nat) : Int)) = True := eq_true (by omega)
            have w3 := iwn (j - 1) (by omega : (j : Int) - 1 = ((j - 1 : Nat) : Int)) (by omega)
            have w4 := iwn (j + 1) (by omega : (j : Int) + 1 = ((j + 1 : Nat) : Int)) (by omega)
            have w5 := iwn (k + 1) (by omega : (k : Int) + 1 = ((k + 1 : Nat) : Int)) (by omega)
            have b2 : ((j - 1 : Nat) : Int) < ((d.size - i : Nat) : Int) := by omega
            have b3 : (k : Int) < (d.size : Int) := by omega
            have g3 := dC_ld tl (show i + j < x.size by omega)
            have g4 := dC_ld tl (show i + (j - 1) < x.size by omega)
            have l1 : k + 1 ≤ (dC x tl).length := by rw [dC_len]; omega
            have s1 := dC_set tl (show k < x.size by omega) x[i + j]!
            have e1 : i + (j - 1) = i + j - 1 := by omega
            simp only [go_sem, Nat.reduceAdd, Nat.reduceLT, Nat.reduceEqDiff, Nat.reduceBEq, Nat.reduceLeDiff, Nat.reduceSub, Int.reduceToNat, reduceCtorEq, ↓reduceIte, f4, decide_true, w3, b2, g3, g4, Int.natCast_nonneg, Int.toNat_natCast, Nat.zero_add, Nat.mul_one]
            by_cases he : x[i + j]! = x[i + (j - 1)]!
            · have f5 : (x[i + j]! != x[i + (j - 1)]!) = false := by simp [he]
              simp only [go_sem, Nat.reduceAdd, Nat.reduceLT, Nat.reduceEqDiff, Nat.reduceBEq, Nat.reduceLeDiff, Nat.reduceSub, Int.reduceToNat, reduceCtorEq, ↓reduceIte, f5, w4]
              exact ⟨m' - 1, by omega, j + 1, k, x, hx.step_eq hjn (by rw [he, e1]), by omega, by omega, hik, rfl⟩
            · have f5 : (x[i + j]! != x[i + (j - 1)]!) = true := by simp [he]
              simp only [go_sem, Nat.reduceAdd, Nat.reduceLT, Nat.reduceEqDiff, Nat.reduceBEq, Nat.reduceLeDiff, Nat.reduceSub, Int.reduceToNat, reduceCtorEq, ↓reduceIte, f5, f4, decide_true, w4, w5, g3, l1, s1, b3, Int.natCast_nonneg, Int.toNat_natCast, Nat.zero_add, Nat.mul_one]
              exact ⟨m' - 1, by omega, j + 1, k + 1, _, hx.step_ne hjn (by rw [← e1]; exact he), by omega, by omega, by omega, rfl⟩
          · have f4 : ((j : Int) < ((d.size - i : Nat) : Int)) = False := eq_false (by omega)
            simp only [go_sem, Nat.reduceAdd, Nat.reduceLT, Nat.reduceEqDiff, Nat.reduceBEq, Nat.reduceLeDiff, Nat.reduceSub, Int.reduceToNat, reduceCtorEq, ↓reduceIte, f4, decide_false]
            obtain rfl : j = d.size - i := by omega
            rw [show i + (d.size - i) = d.size by omega] at hx
            exact ⟨k, x, hik, hx, rfl⟩
        · rintro _ ⟨k, x, hik, hx, rfl⟩
          have hlt := hx.lt
          have hsz := hx.size
          have hlen : (dd d.toList).length = k := by
            have := congrArg List.length hx.pre
            rw [List.take_of_length_le (show d.toList.length ≤ d.size by simp)] at this
            rw [← this, List.length_take, Array.length_toList]
            omega
          have hpre : x.toList.take k = dd d.toList := by
            rw [hx.pre, List.take_of_length_le (show d.toList.length ≤ d.size by simp)]
          have hce : (dC x tl).take k ++ (List.replicate (d.size - k) [AV.lit (.int .u32 0)]).flatten ++ (dC x tl).drop (k + (d.size - k)) = (dd d.toList).map aI ++ (List.replicate (d.size - k) (aI 0) ++ tl) := by
            have e1 : (dC x tl).take k = (dd d.toList).map aI := by
              rw [dC, List.take_append_of_le_length (by simp; omega), ← List.map_take, hpre]
            have e2 : (dC x tl).drop (k + (d.size - k)) = tl := by
              rw [dC]
              exact List.drop_left' (by simp; omega)
            have e3 : ∀ n : Nat, (List.replicate n [AV.lit (.int .u32 0)]).flatten = List.replicate n (aI 0) := by
              intro n
              induction n with
              | zero => rfl
              | succ n ih => rw [List.replicate_succ, List.flatten_cons, ih]; rfl
            rw [e1, e2, e3, List.append_assoc]
          have hs1 : 0 ≤ (k : Int) ∧ (k : Int) ≤ (d.size : Int) ∧ (d.size : Int) ≤ (d.size : Int) ∧ ((k : Int) < cap ∨ (k : Int) = 0) ∧ d.size ≤ cap := by omega
          have hs2 : 0 ≤ ((0 : Nat) : Int) ∧ ((0 : Nat) : Int) ≤ (k : Int) ∧ (k : Int) ≤ (d.size : Int) ∧ (((0 : Nat) : Int) < cap ∨ ((0 : Nat) : Int) = 0) ∧ d.size ≤ cap := by omega
          have hcl : (1 : Nat) = [AV.lit (.int .u32 0)].length ∧ k + (d.size - k) * 1 ≤ (dC x tl).length ∧ oneL [AV.lit (.int .u32 0)] = true := by
            refine ⟨rfl, ?_, rfl⟩
            rw [dC_len]
            omega
          simp only [go_sem, Nat.reduceAdd, Nat.reduceLT, Nat.reduceEqDiff, Nat.reduceBEq, Nat.reduceLeDiff, Nat.reduceSub, Int.reduceToNat, reduceCtorEq, ↓reduceIte, avSlM_some 1 100000 0 d.size cap false (k : Int) (d.size : Int) hs1, avSlM_some 1 100000 0 d.size cap false ((0 : Nat) : Int) (k : Int) hs2, Int.toNat_natCast, Nat.zero_add, Nat.mul_one, Int.toNat_zero, Nat.zero_mul, Nat.sub_zero]
          simp only [go_sem, Nat.reduceAdd, Nat.reduceLT, Nat.reduceEqDiff, Nat.reduceBEq, Nat.reduceLeDiff, Nat.reduceSub, Int.reduceToNat, reduceCtorEq, ↓reduceIte, clrM_some (c := [(100000, dC x tl)]) [AV.lit (.int .u32 0)] 100000 k (d.size - k) 1 (dC x tl) hcl, hce, avSlM_some 1 100000 0 d.size cap false ((0 : Nat) : Int) (k : Int) hs2, Int.toNat_natCast, Nat.zero_add, Nat.mul_one, Int.toNat_zero, Nat.zero_mul, Nat.sub_zero, endM_n, endM_r, hlen, true_and]
          have hret := retC_dC (s := [(2, dS k cap)]) (d := (dd d.toList).toArray) (tl := List.replicate (d.size - k) (aI 0) ++ tl) (by
            intro y hy
            rcases List.mem_append.1 hy with hy | hy
            · exact .inr ⟨_, List.eq_of_mem_replicate hy⟩
            · exact ht y hy)
          exact hret
      · have f3 : (d[i]! == d[i - 1]!) = false := by simp [heq]
        simp only [go_sem, Nat.reduceAdd, Nat.reduceLT, Nat.reduceEqDiff, Nat.reduceBEq, Nat.reduceLeDiff, Nat.reduceSub, Int.reduceToNat, reduceCtorEq, ↓reduceIte, f2, decide_true, w1, b1, g1, g2, f3, Int.natCast_nonneg, Int.toNat_natCast, Nat.zero_add, Nat.mul_one, w2]
        exact ⟨m - 1, by omega, i + 1, by omega, by omega, by omega, by rw [dd_take h1 hin, if_neg (fun e => heq e.symm), hdd, take_succ_get hin], rfl⟩
    · have f2 : ((i : Int) < (d.size : Int)) = False := eq_false (by omega)
      have e : dd d.toList = d.toList := by
        rw [List.take_of_length_le (by simp; omega)] at hdd
        exact hdd
      simp only [go_sem, Nat.reduceAdd, Nat.reduceLT, Nat.reduceEqDiff, Nat.reduceBEq, Nat.reduceLeDiff, Nat.reduceSub, Int.reduceToNat, reduceCtorEq, ↓reduceIte, f2, decide_false, endM_n, endM_r]
      refine ⟨?_, whole e⟩
      rw [e]
      simp
      done

end Go.Proofs.Ytmjmfollimaleaa.VL
