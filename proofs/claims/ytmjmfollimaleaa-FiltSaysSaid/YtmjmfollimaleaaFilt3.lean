/- filt, part 3: Of: a contract. -/
import Derived.Test.YtmjmfollimaleaaFilt2
set_option linter.unusedVariables false
set_option linter.unusedSimpArgs false
set_option maxHeartbeats 4000000
namespace Go.Proofs.Ytmjmfollimaleaa.VL
open Go.RowKit Go.Proofs Go.Sort

theorem avApp_nilG (esz bytes e e' d : Nat) (bs : List Nat) (s : List (Nat × AV)) (c : List (Nat × List AV)) (rows rows' : List AV) (tk : Tok) (h : rows'.length ≤ 4294967296) (hb : bytes ≤ 32768) (he : e' = esz ∨ rows' = []) (hg : goneB tk = false := by rfl) : avApp esz bytes bs d s c (.sl .nil e rows) (.sl tk e' rows') = some (mkE (putA s d (.sl (.own [d]) esz rows')) c) := by
  simp [avApp, okBs, stepApp, h, hb, hg, he, mkE_put]
theorem avApp_ownG (esz bytes e' d : Nat) (bs : List Nat) (τ : List Nat) (s : List (Nat × AV)) (c : List (Nat × List AV)) (rows rows' : List AV) (tk : Tok) (h : rows.length + rows'.length ≤ 4294967296) (hb : bytes ≤ 32768) (ho : okBs bs (.sl (.own τ) esz rows) = true) (he : e' = esz ∨ rows' = []) (hg : goneB tk = false := by rfl) :
    avApp esz bytes bs d s c (.sl (.own τ) esz rows) (.sl tk e' rows') = some (mkE (putA (mapV (strip τ) s) d (.sl (.own [d]) esz (rows ++ rows'))) (mapV (stripL τ) c)) := by
  simp [avApp, ho, stepApp, h, hb, hg, he, mkE_strip, mkE_put]

theorem allOf_take (l : List Mem) {k : Nat} {m : Mem} (h : l[k]? = some m) : allOf (l.take (k + 1)) = allOf (l.take k) ++ m.s := by
  rw [List.take_add_one, h]
  simp [allOf]
theorem any_take {α : Type} (p : α → Bool) (l : List α) {k : Nat} {m : α} (h : l[k]? = some m) : (l.take (k + 1)).any p = ((l.take k).any p || p m) := by
  rw [List.take_add_one, h]
  simp
theorem allOf_le (l : List Mem) (k : Nat) : (allOf (l.take k)).length ≤ (allOf l).length := by
  have : allOf l = allOf (l.take k) ++ allOf (l.drop k) := by
    rw [allOf, allOf, allOf, ← List.flatMap_append, List.take_append_drop]
  rw [this]
  simp

/-- Does one of them listen to all but some? -/
def anyOf (l : List Mem) : Bool := l.any fun m => !m.only
/-- What the filter lists. -/
def srcOf (l : List Mem) : List Int := (rise (allOf l)).filter fun a => (l.any fun m => admits m a) != anyOf l

theorem rise_nil : rise [] = [] := by simp [rise, dd]
theorem C_rising' (l : List Int) (hl : l.length ≤ 255) : AC Try.prog f_filt_rising [.sl .none 1 (l.map aI)] (.sl .none 1 ((rise l).map aI)) := by
  by_cases h : l = []
  · subst h
    rw [rise_nil]
    exact C_rising0 _ _
  · exact C_rising l h hl

theorem filter_take (p : Int → Bool) (l : List Int) {k : Nat} {a : Int} (h : l[k]? = some a) : (l.take (k + 1)).filter p = if p a then (l.take k).filter p ++ [a] else (l.take k).filter p := by
  rw [List.take_add_one, h, List.filter_append]
  cases hp : p a <;> simp [hp]

theorem rise_len (l : List Int) : (rise l).length ≤ l.length := by
  have := dd_len (l.mergeSort (fun x y => decide (x ≤ y)))
  rw [List.length_mergeSort] at this
  exact this

theorem W_Of (l : List Mem) (hl : (allOf l).length ≤ 255) (hn : l.length ≤ 4294967296) :
    aw Try.prog c_filt_Of (env0 [.sl .none 4 (l.map avM)]) (endQ v_filt_Of (.agg [.lit (.bool (anyOf l)), if srcOf l = [] then .sl .nil 0 [] else .sl (.own [45]) 1 ((srcOf l).map aI)])) := by
  have hms : ∀ m ∈ l, m.s.length < 9223372036854775808 := fun m hm => by
    obtain ⟨k, hk⟩ := List.getElem?_of_mem hm
    have h1 := allOf_le l (k + 1)
    rw [allOf_take l hk, List.length_append] at h1
    omega
  simp only [go_sem, Nat.reduceAdd, Nat.reduceLT, Nat.reduceEqDiff, Nat.reduceBEq, Nat.reduceLeDiff, Nat.reduceSub, Int.reduceToNat, reduceCtorEq, ↓reduceIte, c_filt_Of]
  refine aw_loopF (fun m E => ∃ (k : Nat) (x : AV), k + m = l.length ∧ (k = 0 ∧ x = .sl .nil 0 [] ∨ x = .sl (.own [26]) 1 ((allOf (l.take k)).map aI)) ∧
      E = mkE [(0, .sl .none 4 (l.map avM)), (2, .lp 2 0), (3, .lp 3 0), (4, x), (9, .sl .none 4 (l.map avM)), (10, .lit (.int .i64 l.length)), (11, .lit (.int .i64 (k : Nat)))]
        [(2, [.lit (.bool false), .sl .nil 0 []]), (3, [.lit (.bool (anyOf (l.take k))), .sl .nil 0 []])]) l.length
    (fun E' => ∃ x : AV, (0 = l.length ∧ x = .sl .nil 0 [] ∨ x = .sl (.own [26]) 1 ((allOf l).map aI)) ∧ E' = mkE [(0, .sl .none 4 (l.map avM)), (2, .lp 2 0), (3, .lp 3 0), (4, x)]
        [(2, [.lit (.bool false), .sl .nil 0 []]), (3, [.lit (.bool (anyOf l)), .sl .nil 0 []])]) ?_ ?_ ?_
  · exact ⟨0, _, by omega, .inl ⟨rfl, rfl⟩, by simp only [go_sem, Nat.reduceAdd, Nat.reduceLT, Nat.reduceEqDiff, Nat.reduceBEq, Nat.reduceLeDiff, Nat.reduceSub, Int.reduceToNat, reduceCtorEq, ↓reduceIte, List.take_zero, anyOf, List.any_nil, Int.ofNat_zero]⟩
  · rintro m _ ⟨k, x, hk, hx, rfl⟩
    simp only [go_sem, Nat.reduceAdd, Nat.reduceLT, Nat.reduceEqDiff, Nat.reduceBEq, Nat.reduceLeDiff, Nat.reduceSub, Int.reduceToNat, reduceCtorEq, ↓reduceIte]
    refine condX_of (fun h => ?_) (fun h => ?_)
    · have hkl : k < l.length := by simpa using h
      obtain ⟨y, hy⟩ : ∃ y, l[k]? = some y := ⟨l[k], List.getElem?_eq_getElem hkl⟩
      have hw := wrap_succ k (by omega)
      have hle := allOf_le l (k + 1)
      have hall := allOf_take l hy
      have hany := any_take (fun m : Mem => !m.only) l hy
      rw [hall, List.length_append] at hle
      obtain ⟨t, e, es, ht, hg, he, htt⟩ := asV_cases y.src
      have hys : asL y.src = y.s := rfl
      rw [hys] at es he htt
      have next : ∀ b : Bool, b = (anyOf (l.take k) || !y.only) → ∃ k', k' < m ∧ ∃ (k1 : Nat) (x : AV), k1 + k' = l.length ∧ (k1 = 0 ∧ x = .sl .nil 0 [] ∨ x = .sl (.own [26]) 1 ((allOf (l.take k1)).map aI)) ∧
          mkE [(0, .sl .none 4 (l.map avM)), (2, .lp 2 0), (3, .lp 3 0), (4, .sl (.own [26]) 1 ((allOf (l.take k)).map aI ++ y.s.map aI)), (9, .sl .none 4 (l.map avM)), (10, .lit (.int .i64 l.length)), (11, .lit (.int .i64 ((k + 1 : Nat) : Int)))]
            [(2, [.lit (.bool false), .sl .nil 0 []]), (3, [.lit (.bool b), .sl .nil 0 []])] =
          mkE [(0, .sl .none 4 (l.map avM)), (2, .lp 2 0), (3, .lp 3 0), (4, x), (9, .sl .none 4 (l.map avM)), (10, .lit (.int .i64 l.length)), (11, .lit (.int .i64 (k1 : Nat)))]
            [(2, [.lit (.bool false), .sl .nil 0 []]), (3, [.lit (.bool (anyOf (l.take k1))), .sl .nil 0 []])] := by
        rintro b rfl
        refine ⟨m - 1, by omega, k + 1, _, by omega, .inr rfl, ?_⟩
        rw [show anyOf (l.take (k + 1)) = (anyOf (l.take k) || !y.only) from hany, hall, List.map_append]
      have a1 : ∀ (s : List (Nat × AV)) (c : List (Nat × List AV)), avApp 1 4 [] 26 s c (.sl .nil 0 []) (.sl t e (y.s.map aI)) = some (mkE (putA s 26 (.sl (.own [26]) 1 (y.s.map aI))) c) := fun s c =>
        avApp_nilG 1 4 0 e 26 [] s c [] (y.s.map aI) t (by simp; omega) (by decide) (he.imp id fun h => by rw [h]; rfl) hg
      have a2 : ∀ (s : List (Nat × AV)) (c : List (Nat × List AV)), avApp 1 4 [] 26 s c (.sl (.own [26]) 1 ((allOf (l.take k)).map aI)) (.sl t e (y.s.map aI)) = some (mkE (putA (mapV (strip [26]) s) 26 (.sl (.own [26]) 1 ((allOf (l.take k)).map aI ++ y.s.map aI))) (mapV (stripL [26]) c)) := fun s c =>
        avApp_ownG 1 4 e 26 [] [26] s c _ (y.s.map aI) t (by simp; omega) (by decide) rfl (he.imp id fun h => by rw [h]; rfl) hg
      rcases htt with rfl | ⟨rfl, hy0⟩
      all_goals
        cases hb : anyOf (l.take k)
        all_goals
          rw [hb] at next
          rcases hx with ⟨rfl, rfl⟩ | rfl
          all_goals
            simp only [go_sem, Nat.reduceAdd, Nat.reduceLT, Nat.reduceEqDiff, Nat.reduceBEq, Nat.reduceLeDiff, Nat.reduceSub, Int.reduceToNat, reduceCtorEq, ↓reduceIte, h, hy, Int.toNat_natCast, Int.natCast_nonneg, avM_row, List.getElem?_map, es, hw, a1, a2]
            first
              | exact next _ rfl
              | exact next _ (by simp)
              | (have hz : (allOf (l.take 0)).map aI = [] := rfl
                 rw [hz, List.nil_append] at next
                 exact next _ rfl)
              | (have hz : (allOf (l.take 0)).map aI = [] := rfl
                 rw [hz, List.nil_append] at next
                 exact next _ (by simp))
    · have hkl : k = l.length := by have : ¬ k < l.length := by simpa using h
                                    omega
      subst hkl
      simp only [go_sem, Nat.reduceAdd, Nat.reduceLT, Nat.reduceEqDiff, Nat.reduceBEq, Nat.reduceLeDiff, Nat.reduceSub, Int.reduceToNat, reduceCtorEq, ↓reduceIte, h, List.take_length] at hx ⊢
      exact ⟨x, hx.imp (fun h => ⟨h.1.symm, h.2⟩) id, rfl⟩
  · rintro _ ⟨x, hx, rfl⟩
    simp only [go_sem, Nat.reduceAdd, Nat.reduceLT, Nat.reduceEqDiff, Nat.reduceBEq, Nat.reduceLeDiff, Nat.reduceSub, Int.reduceToNat, reduceCtorEq, ↓reduceIte]
    have hR : (rise (allOf l)).length ≤ 255 := Nat.le_trans (rise_len _) hl
    have hC : ∃ x', lower (getC [(2, [.lit (.bool false), .sl .nil 0 []]), (3, [.lit (.bool (anyOf l)), .sl .nil 0 []])]) 8 x = some x' ∧ AC Try.prog f_filt_rising [x'] (.sl .none 1 ((rise (allOf l)).map aI)) := by
      rcases hx with ⟨h0, rfl⟩ | rfl
      · refine ⟨_, rfl, ?_⟩
        obtain rfl : l = [] := List.length_eq_zero_iff.1 h0.symm
        rw [show allOf [] = [] from rfl, rise_nil]
        exact C_rising0 _ _
      · exact ⟨_, rfl, C_rising' _ hl⟩
    obtain ⟨x', hlow, hC⟩ := hC
    rw [hlow]
    simp only [go_sem, Nat.reduceAdd, Nat.reduceLT, Nat.reduceEqDiff, Nat.reduceBEq, Nat.reduceLeDiff, Nat.reduceSub, Int.reduceToNat, reduceCtorEq, ↓reduceIte]
    refine callX_of hC ?_
    have hsrc : srcOf l = (rise (allOf l)).filter fun a => (l.any fun m => admits m a) != anyOf l := rfl
    generalize rise (allOf l) = R at hR hsrc ⊢
    generalize anyOf l = any at hsrc ⊢
    clear hC hlow hx
    have ha : ∀ a, AC Try.prog f_slices_ContainsFunc_api_Member_api_Member [.sl .none 4 (l.map avM), .clo (.func f_filt_Of_1) [] [.bp [aI a]]] (.lit (.bool (l.any fun m => admits m a))) := fun a => C_ContainsAdm l a hms (by omega)
    generalize hp : (fun a => (l.any fun m => admits m a) != any) = p at hsrc
    simp only [go_sem, Nat.reduceAdd, Nat.reduceLT, Nat.reduceEqDiff, Nat.reduceBEq, Nat.reduceLeDiff, Nat.reduceSub, Int.reduceToNat, reduceCtorEq, ↓reduceIte]
    refine aw_loopF (fun m E => ∃ (k : Nat) (y : AV), k + m = R.length ∧ ((R.take k).filter p = [] ∧ y = .sl .nil 0 [] ∨ (R.take k).filter p ≠ [] ∧ y = .sl (.own [45]) 1 (((R.take k).filter p).map aI)) ∧
        E = mkE [(0, .sl .none 4 (l.map avM)), (2, .lp 2 0), (3, .lp 3 0), (29, .sl .none 1 (R.map aI)), (30, .lit (.int .i64 R.length)), (31, .lit (.int .i64 (k : Nat)))]
          [(2, [.lit (.bool false), .sl .nil 0 []]), (3, [.lit (.bool any), y])]) R.length
      (fun E' => ∃ y : AV, y = (if srcOf l = [] then .sl .nil 0 [] else .sl (.own [45]) 1 ((srcOf l).map aI)) ∧ E' = mkE [(2, .lp 2 0), (3, .lp 3 0)]
        [(2, [.lit (.bool false), .sl .nil 0 []]), (3, [.lit (.bool any), y])]) ?_ ?_ ?_
    · exact ⟨0, _, by omega, .inl ⟨by simp, rfl⟩, by simp only [go_sem, Nat.reduceAdd, Nat.reduceLT, Nat.reduceEqDiff, Nat.reduceBEq, Nat.reduceLeDiff, Nat.reduceSub, Int.reduceToNat, reduceCtorEq, ↓reduceIte, Int.ofNat_zero]⟩
    · rintro m _ ⟨k, y, hk, hy, rfl⟩
      simp only [go_sem, Nat.reduceAdd, Nat.reduceLT, Nat.reduceEqDiff, Nat.reduceBEq, Nat.reduceLeDiff, Nat.reduceSub, Int.reduceToNat, reduceCtorEq, ↓reduceIte]
      refine condX_of (fun h => ?_) (fun h => ?_)
      · have hkl : k < R.length := by simpa using h
        obtain ⟨a, hka⟩ : ∃ a, R[k]? = some a := ⟨R[k], List.getElem?_eq_getElem hkl⟩
        have hw := wrap_succ k (by omega)
        have hft := filter_take p R hka
        have hfl : ((R.take k).filter p).length ≤ R.length := Nat.le_trans (List.length_filter_le _ _) (by simp; omega)
        have hpa : p a = ((l.any fun m => admits m a) != any) := by rw [← hp]
        have hrow : avRow 1 1 Tok.none (some (aI a)) = some (.rp [aI a]) := rfl
        simp only [go_sem, Nat.reduceAdd, Nat.reduceLT, Nat.reduceEqDiff, Nat.reduceBEq, Nat.reduceLeDiff, Nat.reduceSub, Int.reduceToNat, reduceCtorEq, ↓reduceIte, h, hka, Int.toNat_natCast, Int.natCast_nonneg, List.getElem?_map, hrow]
        refine callX_of (ha a) ?_
        simp only [go_sem, Nat.reduceAdd, Nat.reduceLT, Nat.reduceEqDiff, Nat.reduceBEq, Nat.reduceLeDiff, Nat.reduceSub, Int.reduceToNat, reduceCtorEq, ↓reduceIte]
        have hq : (!((l.any fun m => admits m a) == any)) = p a := by rw [hpa]; rfl
        rw [hq]
        have a1 : ∀ (s : List (Nat × AV)) (c : List (Nat × List AV)), avApp 1 4 [] 45 s c (.sl .nil 0 []) (.sl (.own [44]) 1 [aI a]) = some (mkE (putA s 45 (.sl (.own [45]) 1 [aI a])) c) := fun s c =>
          avApp_nilG 1 4 0 1 45 [] s c [] [aI a] (.own [44]) (by simp) (by decide) (.inl rfl) rfl
        have a2 : ∀ (s : List (Nat × AV)) (c : List (Nat × List AV)), avApp 1 4 [] 45 s c (.sl (.own [45]) 1 (((R.take k).filter p).map aI)) (.sl (.own [44]) 1 [aI a]) = some (mkE (putA (mapV (strip [45]) s) 45 (.sl (.own [45]) 1 (((R.take k).filter p).map aI ++ [aI a]))) (mapV (stripL [45]) c)) := fun s c =>
          avApp_ownG 1 4 1 45 [] [45] s c _ [aI a] (.own [44]) (by simp only [List.length_map, List.length_singleton]; omega) (by decide) rfl (.inl rfl) rfl
        cases hpt : p a with
        | true =>
          rw [hpt, if_pos rfl] at hft
          rcases hy with ⟨h1, rfl⟩ | ⟨h1, rfl⟩
          · rw [h1, List.nil_append] at hft
            simp only [go_sem, Nat.reduceAdd, Nat.reduceLT, Nat.reduceEqDiff, Nat.reduceBEq, Nat.reduceLeDiff, Nat.reduceSub, Int.reduceToNat, reduceCtorEq, ↓reduceIte, a1, hw]
            exact ⟨m - 1, by omega, k + 1, _, by omega, .inr ⟨by rw [hft]; simp, by rw [hft]; rfl⟩, rfl⟩
          · simp only [go_sem, Nat.reduceAdd, Nat.reduceLT, Nat.reduceEqDiff, Nat.reduceBEq, Nat.reduceLeDiff, Nat.reduceSub, Int.reduceToNat, reduceCtorEq, ↓reduceIte, a2, hw]
            exact ⟨m - 1, by omega, k + 1, _, by omega, .inr ⟨by rw [hft]; simp, by rw [hft, List.map_append]; rfl⟩, rfl⟩
        | false =>
          rw [hpt, if_neg (by decide)] at hft
          have hky : kill 8 y = y := by rcases hy with ⟨_, rfl⟩ | ⟨_, rfl⟩ <;> rfl
          simp only [go_sem, Nat.reduceAdd, Nat.reduceLT, Nat.reduceEqDiff, Nat.reduceBEq, Nat.reduceLeDiff, Nat.reduceSub, Int.reduceToNat, reduceCtorEq, ↓reduceIte, hw, hky]
          exact ⟨m - 1, by omega, k + 1, y, by omega, by rw [hft]; exact hy, rfl⟩
      · have hkl : k = R.length := by have : ¬ k < R.length := by simpa using h
                                      omega
        subst hkl
        simp only [go_sem, Nat.reduceAdd, Nat.reduceLT, Nat.reduceEqDiff, Nat.reduceBEq, Nat.reduceLeDiff, Nat.reduceSub, Int.reduceToNat, reduceCtorEq, ↓reduceIte, h, List.take_length] at hy ⊢
        refine ⟨_, ?_, rfl⟩
        rw [hsrc]
        rcases hy with ⟨h1, h2⟩ | ⟨h1, h2⟩
        · rw [if_pos h1, h2]
        · rw [if_neg h1, h2]
    · rintro _ ⟨y, rfl, rfl⟩
      by_cases hz : srcOf l = []
      · simp only [go_sem, Nat.reduceAdd, Nat.reduceLT, Nat.reduceEqDiff, Nat.reduceBEq, Nat.reduceLeDiff, Nat.reduceSub, Int.reduceToNat, reduceCtorEq, ↓reduceIte, if_pos hz]
      · simp only [go_sem, Nat.reduceAdd, Nat.reduceLT, Nat.reduceEqDiff, Nat.reduceBEq, Nat.reduceLeDiff, Nat.reduceSub, Int.reduceToNat, reduceCtorEq, ↓reduceIte, if_neg hz]

theorem C_Of (l : List Mem) (hl : (allOf l).length ≤ 255) (hn : l.length ≤ 4294967296) : AC Try.prog f_filt_Of [.sl .none 4 (l.map avM)] (.agg [.lit (.bool (anyOf l)), .sl .none 1 ((srcOf l).map aI)]) := by
  have h := W_Of l hl hn
  by_cases hz : srcOf l = []
  · rw [if_pos hz] at h
    refine AC_weak (ac_filt_Of h (Nat.le_add_left 1 _)) fun E v hv => ?_
    simp only [Rep, RepL] at hv ⊢
    obtain ⟨vs, rfl, v1, ws, rfl, rfl, v2, ws2, rfl, ⟨A, cap, us, rfl, h1, h2, h3, h4, h5⟩, rfl⟩ := hv
    refine ⟨_, rfl, _, _, rfl, rfl, _, _, rfl, ⟨A, cap, us, by rw [hz]; rfl, by rw [hz]; exact h1, by rw [hz]; exact h2, fun u hu => ?_, h4, fun hne => absurd (by rw [hz]; rfl) hne⟩, rfl⟩
    rw [h2] at hu
    simp at hu
  · rw [if_neg hz] at h
    refine AC_weak (ac_filt_Of h (Nat.le_add_left 1 _)) fun E v hv => ?_
    simp only [Rep, RepL] at hv ⊢
    obtain ⟨vs, rfl, v1, ws, rfl, rfl, v2, ws2, rfl, ⟨A, cap, us, rfl, h1, h2, h3, h4, h5⟩, rfl⟩ := hv
    refine ⟨_, rfl, _, _, rfl, rfl, _, _, rfl, ⟨A, cap, us, rfl, h1, h2, h3, h4, fun hne => ?_⟩, rfl⟩
    rcases h5 with ⟨_, h6⟩ | ⟨g, cur, ty, h6, h7, _⟩
    · rw [h6] at h1
      exact absurd (List.length_eq_zero_iff.1 (by omega)) hne
    · exact ⟨_, _, h6, h7⟩

end Go.Proofs.Ytmjmfollimaleaa.VL
