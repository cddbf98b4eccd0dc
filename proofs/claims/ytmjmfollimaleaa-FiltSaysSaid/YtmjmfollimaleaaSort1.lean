/- slices.Sort over addresses, part 1: a row of addresses that is lent; cmp.Less, reverseRange, insertionSort: contracts. -/
import Derived.Test.YtmjmfollimaleaaVLV
import Derived.Test.YtmjmfollimaleaaCode
import Derived.Sort.AssemblyPlain
set_option linter.unusedVariables false
set_option linter.unusedSimpArgs false
set_option maxHeartbeats 4000000
namespace Go.Proofs.Ytmjmfollimaleaa.VL
open Go.RowKit Go.Proofs Go.Sort

theorem iw (x : Int) (h0 : -9223372036854775808 ≤ x) (h1 : x ≤ 9223372036854775807) : IntKind.i64.wrap x = x := by
  rw [IntKind.wrap_i64]; omega
/-- A number of Go's that is a natural one. -/
theorem iwn {x : Int} (n : Nat) (e : x = n) (h1 : n ≤ 9223372036854775807) : IntKind.i64.wrap x = (n : Int) := by
  rw [e]; exact iw _ (by omega) (by omega)

abbrev aI (n : Int) : AV := .lit (.int .u32 n)
abbrev iI (n : Int) : AV := .lit (.int .i64 n)

/-- What lies behind a row: nothing that matters. -/
def Tl (tl : List AV) : Prop := ∀ x ∈ tl, x = .dead ∨ ∃ v, x = .lit v
/-- The cells of a row. -/
def dC (d : Array Int) (tl : List AV) : List AV := d.toList.map aI ++ tl

theorem dC_len (d : Array Int) (tl : List AV) : (dC d tl).length = d.size + tl.length := by simp [dC]
theorem dC_get {d : Array Int} (tl : List AV) {j : Nat} (h : j < d.size) : (dC d tl)[j]? = some (aI d[j]!) := by
  rw [dC, List.getElem?_append_left (by simpa using h), List.getElem?_map]
  simp [h]
theorem dC_ld {d : Array Int} (tl : List AV) {j : Nat} (h : j < d.size) : aval.ld false 1 ((dC d tl).drop j) = some (aI d[j]!) := by
  simp only [aval.ld, List.getElem?_drop, Nat.add_zero]
  exact dC_get tl h
theorem dC_set {d : Array Int} (tl : List AV) {j : Nat} (h : j < d.size) (v : Int) : (dC d tl).take j ++ [aI v] ++ (dC d tl).drop (j + 1) = dC (d.setIfInBounds j v) tl := by
  apply List.ext_getElem?
  intro i
  have hl := dC_len d tl
  have htl : ((dC d tl).take j).length = j := by rw [List.length_take]; omega
  simp only [dC, Array.toList_setIfInBounds, List.map_set]
  rw [List.append_assoc]
  by_cases h1 : i < j
  · rw [List.getElem?_append_left (by rw [List.length_take, List.length_append, List.length_map, Array.length_toList]; omega), List.getElem?_take_of_lt h1]
    rw [List.getElem?_append_left (by simp; omega), List.getElem?_append_left (by simp; omega), List.getElem?_set_ne (by omega)]
  · rw [List.getElem?_append_right (by rw [List.length_take, List.length_append, List.length_map, Array.length_toList]; omega)]
    have e : (List.take j (d.toList.map aI ++ tl)).length = j := by rw [List.length_take, List.length_append, List.length_map, Array.length_toList]; omega
    rw [e]
    by_cases h2 : i = j
    · subst h2
      have e2 : ((List.map aI d.toList).set i (aI v) ++ tl)[i]? = some (aI v) := by
        rw [List.getElem?_append_left (by rw [List.length_set, List.length_map, Array.length_toList]; exact h), List.getElem?_set_self (by rw [List.length_map, Array.length_toList]; exact h)]
      rw [e2, Nat.sub_self]
      rfl
    · have h3 : i - j = (i - j - 1) + 1 := by omega
      rw [h3, List.singleton_append, List.getElem?_cons_succ, List.getElem?_drop]
      have h4 : j + 1 + (i - j - 1) = i := by omega
      rw [h4]
      by_cases h5 : i < d.size
      · rw [List.getElem?_append_left (by simpa using h5), List.getElem?_append_left (by simpa using h5), List.getElem?_set_ne (by omega)]
      · rw [List.getElem?_append_right (by simp; omega), List.getElem?_append_right (by simp; omega)]
        simp

theorem mapO_id {f : AV → Option AV} : ∀ {l : List AV}, (∀ x ∈ l, f x = some x) → mapO f l = some l
  | [], _ => rfl
  | x :: l, h => by
    have ih : mapO f l = some l := mapO_id fun y hy => h y (List.mem_cons_of_mem _ hy)
    simp only [mapO, h x List.mem_cons_self, ih]

theorem close_dC (d : Array Int) {tl : List AV} (ht : Tl tl) : mapO closeV (dC d tl) = some (dC d tl) := by
  refine mapO_id fun x hx => ?_
  rcases List.mem_append.1 hx with hx | hx
  · obtain ⟨n, _, rfl⟩ := List.mem_map.1 hx
    rfl
  · rcases ht x hx with rfl | ⟨v, rfl⟩ <;> rfl
theorem ret_dC (C : Nat → Option (List AV)) (d : Array Int) {tl : List AV} (ht : Tl tl) : mapO (retv C false 8) (dC d tl) = some (dC d tl) := by
  refine mapO_id fun x hx => ?_
  rcases List.mem_append.1 hx with hx | hx
  · obtain ⟨n, _, rfl⟩ := List.mem_map.1 hx
    rfl
  · rcases ht x hx with rfl | ⟨v, rfl⟩ <;> rfl

abbrev DM : List (Nat × Nat) := [(100000, 100000)]
/-- A row of addresses, lent. -/
abbrev dS (n cap : Nat) : AV := .ml 100000 0 n cap false 1

theorem back_dC (s : List (Nat × AV)) (x y : List AV) : backC DM [(100000, y)] (mkE s [(100000, x)]) = mkE s [(100000, y)] := by
  simp only [backC, mkE]
  congr 1
  funext c
  by_cases h : c = 100000
  · subst h; rfl
  · simp [lentAs, getC, h]

/-- A call that the row is lent to. -/
theorem callD_of {P : Program} {dst : Option Nat} {os : List AOper} {s : List (Nat × AV)} {K : Env → Prop} {f : FuncId} {raw al : List AV} {args : Option (List AV)} {r : AV} {d d' : Array Int} {tl : List AV} (ht : Tl tl)
    (hl : mapO (lowerM DM (getC [(100000, dC d tl)]) 8) raw = some al) (h : AM P f al [(100000, dC d tl)] r [(100000, dC d' tl)])
    (hk : awX false P os ((mkE s [(100000, dC d' tl)]).putO dst (retag (dst.getD 0) (unlend DM r))) K) : callX false P dst os s [(100000, dC d tl)] K f raw args := by
  refine callM_of DM rfl hl ?_ h ?_
  · show mapO _ DM = _
    simp only [DM, mapO_cons, mapO_nil, getC_cons, ↓reduceIte, close_dC d ht, catO_some]
  · rw [back_dC]
    exact hk

/-- The end of a call that the row was lent to. -/
theorem endM_dC {s : List (Nat × AV)} {d : Array Int} {tl : List AV} (ht : Tl tl) {rvs : List RV} {r : AV} (h : retR (mkE s [(100000, dC d tl)]) rvs = some r) : ∀ ex, (∀ i, ex ≠ .exit i) → endM rvs r [100000] [(100000, dC d tl)] ex (mkE s [(100000, dC d tl)]) := by
  intro ex hex
  have : retC (mkE s [(100000, dC d tl)]) [100000] = some [(100000, dC d tl)] := by
    simp only [retC, mapO_cons, mapO_nil, mkE_c, getC_cons, ↓reduceIte, ret_dC _ d ht, catO_some]
  cases ex with
  | exit i => exact absurd rfl (hex i)
  | normal => exact ⟨h, this⟩
  | ret => exact ⟨h, this⟩
theorem endM_n (v : List RV) (r : AV) (ks : List Nat) (c1 : List (Nat × List AV)) (E : Env) : endM v r ks c1 .normal E = (retR E v = some r ∧ retC E ks = some c1) := rfl
theorem endM_r (v : List RV) (r : AV) (ks : List Nat) (c1 : List (Nat × List AV)) (E : Env) : endM v r ks c1 .ret E = (retR E v = some r ∧ retC E ks = some c1) := rfl
theorem endM_e (v : List RV) (r : AV) (ks : List Nat) (c1 : List (Nat × List AV)) (i : Nat) (E : Env) : endM v r ks c1 (.exit i) E = False := rfl
theorem retC_dC {s : List (Nat × AV)} {d : Array Int} {tl : List AV} (ht : Tl tl) : retC (mkE s [(100000, dC d tl)]) [100000] = some [(100000, dC d tl)] := by
  simp only [retC, mapO_cons, mapO_nil, mkE_c, getC_cons, ↓reduceIte, ret_dC _ d ht, catO_some]

/-! ### cmp.Less -/
theorem C_isNaN (x : Int) : AC Try.prog f_cmp_isNaN_api_Addr [aI x] (.lit (.bool false)) := by
  refine ac_cmp_isNaN_api_Addr ?_ (Nat.le_add_left 1 _)
  simp only [go_sem, Nat.reduceAdd, Nat.reduceLT, Nat.reduceEqDiff, Nat.reduceBEq, Nat.reduceLeDiff, Nat.reduceSub, Int.reduceToNat, reduceCtorEq, ↓reduceIte, c_cmp_isNaN_api_Addr, bne_self_eq_false]
theorem C_Less (x y : Int) : AC Try.prog f_cmp_Less_api_Addr [aI x, aI y] (.lit (.bool (ltInt x y))) := by
  refine ac_cmp_Less_api_Addr ?_ (Nat.le_add_left 2 _)
  simp only [go_sem, Nat.reduceAdd, Nat.reduceLT, Nat.reduceEqDiff, Nat.reduceBEq, Nat.reduceLeDiff, Nat.reduceSub, Int.reduceToNat, reduceCtorEq, ↓reduceIte, c_cmp_Less_api_Addr]
  refine callX_of (C_isNaN x) ?_
  simp only [go_sem, Nat.reduceAdd, Nat.reduceLT, Nat.reduceEqDiff, Nat.reduceBEq, Nat.reduceLeDiff, Nat.reduceSub, Int.reduceToNat, reduceCtorEq, ↓reduceIte, ltInt]

/-! ### reverseRange -/
theorem swp_size (d : Array Int) (i j : Nat) : (swp d i j).size = d.size := by simp [swp]
theorem swp_def (d : Array Int) (i j : Nat) : (d.setIfInBounds i d[j]!).setIfInBounds j d[i]! = swp d i j := rfl

theorem C_reverse {d : Array Int} {a b cap : Nat} {tl : List AV} (ht : Tl tl) (hab : a < b) (hb : b ≤ d.size) (hd : d.size ≤ 4611686018427387904) :
    AM Try.prog f_slices_reverseRangeOrdered_api_Addr [dS d.size cap, iI a, iI b] [(100000, dC d tl)] (.tup []) [(100000, dC (reverseRange d a b) tl)] := by
  refine am_slices_reverseRangeOrdered_api_Addr ?_ (by simp) (Nat.le_add_left 3 _)
  simp only [go_sem, Nat.reduceAdd, Nat.reduceLT, Nat.reduceEqDiff, Nat.reduceBEq, Nat.reduceLeDiff, Nat.reduceSub, Int.reduceToNat, reduceCtorEq, ↓reduceIte, env0M_mk, c_slices_reverseRangeOrdered_api_Addr, List.map_cons, List.map_nil]
  refine aw_loop (fun m E => ∃ (i j : Nat) (e : Array Int), e.size = d.size ∧ j < d.size ∧ i ≤ j + 1 ∧ j + 1 - i ≤ m ∧ reverseLoop i j e = reverseRange d a b ∧
    E = mkE [(0, dS d.size cap), (6, iI i), (7, iI j)] [(100000, dC e tl)]) (b - a) ?_ ?_
  · refine ⟨a, b - 1, d, rfl, by omega, by omega, by omega, rfl, ?_⟩
    simp only [go_sem, Nat.reduceAdd, Nat.reduceLT, Nat.reduceEqDiff, Nat.reduceBEq, Nat.reduceLeDiff, Nat.reduceSub, Int.reduceToNat, reduceCtorEq, ↓reduceIte, iwn (b - 1) (by omega : (b : Int) - 1 = ((b - 1 : Nat) : Int)) (by omega)]
  · rintro m _ ⟨i, j, e, he, hj, hij, hm, hr, rfl⟩
    by_cases h : i < j
    · have f1 : ((i : Int) < (j : Int)) = True := eq_true (by omega)
      have g1 := dC_ld tl (show i < e.size by omega)
      have g2 := dC_ld tl (show j < e.size by omega)
      have l1 : i + 1 ≤ (dC e tl).length := by rw [dC_len]; omega
      have s1 := dC_set tl (show i < e.size by omega) e[j]!
      have l2 : j + 1 ≤ (dC (e.setIfInBounds i e[j]!) tl).length := by rw [dC_len, Array.size_setIfInBounds]; omega
      have s2 := dC_set (d := e.setIfInBounds i e[j]!) tl (show j < (e.setIfInBounds i e[j]!).size by rw [Array.size_setIfInBounds]; omega) e[i]!
      have b1 : (j : Int) < (d.size : Int) := by omega
      have b2 : (i : Int) < (d.size : Int) := by omega
      simp only [go_sem, Nat.reduceAdd, Nat.reduceLT, Nat.reduceEqDiff, Nat.reduceBEq, Nat.reduceLeDiff, Nat.reduceSub, Int.reduceToNat, reduceCtorEq, ↓reduceIte, f1, decide_true, g1, g2, l1, s1, l2, s2, b1, b2, Int.natCast_nonneg, Int.toNat_natCast, Nat.zero_add, Nat.mul_one, iwn (i + 1) (by omega : (i : Int) + 1 = ((i + 1 : Nat) : Int)) (by omega), iwn (j - 1) (by omega : (j : Int) - 1 = ((j - 1 : Nat) : Int)) (by omega), swp_def]
      refine ⟨m - 1, by omega, i + 1, j - 1, swp e i j, by rw [swp_size, he], by omega, by omega, by omega, ?_, rfl⟩
      rw [← hr]
      conv => rhs; unfold reverseLoop
      rw [if_pos h]
    · have f1 : ((i : Int) < (j : Int)) = False := eq_false (by omega)
      rw [show reverseRange d a b = e by rw [← hr]; unfold reverseLoop; rw [if_neg h]]
      simp only [go_sem, Nat.reduceAdd, Nat.reduceLT, Nat.reduceEqDiff, Nat.reduceBEq, Nat.reduceLeDiff, Nat.reduceSub, Int.reduceToNat, reduceCtorEq, ↓reduceIte, f1, decide_false, endM_n, endM_r, retC_dC ht, and_self]

/-! ### insertionSort -/
theorem C_insertion {d : Array Int} {a b cap : Nat} {tl : List AV} (ht : Tl tl) (hab : a ≤ b) (hb : b ≤ d.size) (hd : d.size ≤ 4611686018427387904) :
    AM Try.prog f_slices_insertionSortOrdered_api_Addr [dS d.size cap, iI a, iI b] [(100000, dC d tl)] (.tup []) [(100000, dC (insertionSort ltInt d a b) tl)] := by
  refine am_slices_insertionSortOrdered_api_Addr ?_ (by simp) (Nat.le_add_left 3 _)
  simp only [go_sem, Nat.reduceAdd, Nat.reduceLT, Nat.reduceEqDiff, Nat.reduceBEq, Nat.reduceLeDiff, Nat.reduceSub, Int.reduceToNat, reduceCtorEq, ↓reduceIte, env0M_mk, c_slices_insertionSortOrdered_api_Addr, List.map_cons, List.map_nil]
  refine aw_loop (fun m E => ∃ (i : Nat) (e : Array Int), e.size = d.size ∧ b - i ≤ m ∧ i ≤ b + 1 ∧ a + 1 ≤ i ∧ insOuter ltInt a b i e = insertionSort ltInt d a b ∧
    E = mkE [(0, dS d.size cap), (1, iI a), (2, iI b), (6, iI i)] [(100000, dC e tl)]) (b - a) ?_ ?_
  · refine ⟨a + 1, d, rfl, by omega, by omega, by omega, rfl, ?_⟩
    simp only [go_sem, Nat.reduceAdd, Nat.reduceLT, Nat.reduceEqDiff, Nat.reduceBEq, Nat.reduceLeDiff, Nat.reduceSub, Int.reduceToNat, reduceCtorEq, ↓reduceIte, iwn (a + 1) (by omega : (a : Int) + 1 = ((a + 1 : Nat) : Int)) (by omega)]
  · rintro m _ ⟨i, e, he, hm, hib, hai, hr, rfl⟩
    by_cases h : i < b
    · have f1 : ((i : Int) < (b : Int)) = True := eq_true (by omega)
      have w1 := iwn (i + 1) (by omega : (i : Int) + 1 = ((i + 1 : Nat) : Int)) (by omega)
      rw [insOuter, if_pos h] at hr
      simp only [go_sem, Nat.reduceAdd, Nat.reduceLT, Nat.reduceEqDiff, Nat.reduceBEq, Nat.reduceLeDiff, Nat.reduceSub, Int.reduceToNat, reduceCtorEq, ↓reduceIte, f1, decide_true]
      refine aw_loop (fun m' E => ∃ (j : Nat) (x : Array Int), x.size = d.size ∧ j ≤ m' ∧ j ≤ i ∧ a ≤ j ∧ insInner ltInt a j x = insInner ltInt a i e ∧
        E = mkE [(0, dS d.size cap), (1, iI a), (2, iI b), (6, iI i), (7, iI j)] [(100000, dC x tl)]) i ?_ ?_
      · exact ⟨i, e, he, by omega, by omega, by omega, rfl, by simp only [go_sem, Nat.reduceAdd, Nat.reduceLT, Nat.reduceEqDiff, Nat.reduceBEq, Nat.reduceLeDiff, Nat.reduceSub, Int.reduceToNat, reduceCtorEq, ↓reduceIte]⟩
      · rintro m' _ ⟨j, x, hx, hm', hji, haj, hr', rfl⟩
        by_cases h2 : a < j
        · obtain ⟨j', rfl⟩ : ∃ j', j = j' + 1 := ⟨j - 1, by omega⟩
          have f2 : ((a : Int) < ((j' + 1 : Nat) : Int)) = True := eq_true (by omega)
          have b1 : ((j' + 1 : Nat) : Int) < (d.size : Int) := by omega
          have b2 : ((j' : Nat) : Int) < (d.size : Int) := by omega
          have g1 := dC_ld tl (show j' < x.size by omega)
          have g2 := dC_ld tl (show j' + 1 < x.size by omega)
          have w2 := iwn j' (by omega : ((j' + 1 : Nat) : Int) - 1 = ((j' : Nat) : Int)) (by omega)
          simp only [go_sem, Nat.reduceAdd, Nat.reduceLT, Nat.reduceEqDiff, Nat.reduceBEq, Nat.reduceLeDiff, Nat.reduceSub, Int.reduceToNat, reduceCtorEq, ↓reduceIte, f2, decide_true, b1, b2, g1, g2, w2, Int.natCast_nonneg, Int.toNat_natCast, Nat.zero_add, Nat.mul_one]
          refine callX_of (C_Less x[j' + 1]! x[j']!) ?_
          simp only [go_sem, Nat.reduceAdd, Nat.reduceLT, Nat.reduceEqDiff, Nat.reduceBEq, Nat.reduceLeDiff, Nat.reduceSub, Int.reduceToNat, reduceCtorEq, ↓reduceIte]
          rw [insInner] at hr'
          cases hlt : ltInt x[j' + 1]! x[j']! with
          | true =>
            have l1 : j' + 1 + 1 ≤ (dC x tl).length := by rw [dC_len]; omega
            have s1 := dC_set tl (show j' + 1 < x.size by omega) x[j']!
            have l2 : j' + 1 ≤ (dC (x.setIfInBounds (j' + 1) x[j']!) tl).length := by rw [dC_len, Array.size_setIfInBounds]; omega
            have s2 := dC_set (d := x.setIfInBounds (j' + 1) x[j']!) tl (show j' < (x.setIfInBounds (j' + 1) x[j']!).size by rw [Array.size_setIfInBounds]; omega) x[j' + 1]!
            simp only [go_sem, Nat.reduceAdd, Nat.reduceLT, Nat.reduceEqDiff, Nat.reduceBEq, Nat.reduceLeDiff, Nat.reduceSub, Int.reduceToNat, reduceCtorEq, ↓reduceIte, f2, decide_true, b1, b2, g1, g2, w2, l1, s1, l2, s2, Int.natCast_nonneg, Int.toNat_natCast, Nat.zero_add, Nat.mul_one, swp_def]
            refine ⟨m' - 1, by omega, j', swp x (j' + 1) j', by rw [swp_size, hx], by omega, by omega, by omega, ?_, rfl⟩
            rw [← hr', if_pos (by simp [hlt]; omega)]
          | false =>
            rw [if_neg (by simp [hlt])] at hr'
            simp only [go_sem, Nat.reduceAdd, Nat.reduceLT, Nat.reduceEqDiff, Nat.reduceBEq, Nat.reduceLeDiff, Nat.reduceSub, Int.reduceToNat, reduceCtorEq, ↓reduceIte, w1]
            exact ⟨m - 1, by omega, i + 1, x, hx, by omega, by omega, by omega, by rw [hr']; exact hr, rfl⟩
        · have f2 : ((a : Int) < (j : Int)) = False := eq_false (by omega)
          have hx' : insInner ltInt a i e = x := by
            rw [← hr']
            cases j with
            | zero => rfl
            | succ j => rw [insInner, if_neg (by simp; omega)]
          simp only [go_sem, Nat.reduceAdd, Nat.reduceLT, Nat.reduceEqDiff, Nat.reduceBEq, Nat.reduceLeDiff, Nat.reduceSub, Int.reduceToNat, reduceCtorEq, ↓reduceIte, f2, decide_false, w1]
          exact ⟨m - 1, by omega, i + 1, x, hx, by omega, by omega, by omega, by rw [← hx']; exact hr, rfl⟩
    · have f1 : ((i : Int) < (b : Int)) = False := eq_false (by omega)
      rw [show insertionSort ltInt d a b = e by rw [← hr]; unfold insOuter; rw [if_neg h]]
      simp only [go_sem, Nat.reduceAdd, Nat.reduceLT, Nat.reduceEqDiff, Nat.reduceBEq, Nat.reduceLeDiff, Nat.reduceSub, Int.reduceToNat, reduceCtorEq, ↓reduceIte, f1, decide_false, endM_n, endM_r, retC_dC ht, and_self]

end Go.Proofs.Ytmjmfollimaleaa.VL
