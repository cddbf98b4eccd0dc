/- filt, part 4: Lets, Same, Keys; light, first: contracts. -/
import Derived.Test.YtmjmfollimaleaaFilt3
set_option linter.unusedVariables false
set_option linter.unusedSimpArgs false
set_option maxHeartbeats 4000000
namespace Go.Proofs.Ytmjmfollimaleaa.VL
open Go.RowKit Go.Proofs Go.Sort

theorem rep_own {E : RE} {τ : List Nat} {e : Nat} {rows : List AV} {v : Value} (h : Rep E (.sl (.own τ) e rows) v) : Rep E (.sl .none e rows) v := by
  simp only [Rep] at h ⊢
  obtain ⟨A, cap, us, rfl, h1, h2, h3, h4, h5⟩ := h
  refine ⟨A, cap, us, rfl, h1, h2, h3, h4, fun hne => ?_⟩
  rcases h5 with ⟨_, h6⟩ | ⟨g, cur, ty, h6, h7, _⟩
  · rw [h6] at h1
    exact absurd (List.length_eq_zero_iff.1 (by omega)) hne
  · exact ⟨_, _, h6, h7⟩
/-- A row that was begun as nil. -/
def begun (d e : Nat) (rows : List AV) : AV := if rows = [] then .sl .nil 0 [] else .sl (.own [d]) e rows
theorem rep_begun {E : RE} {d e : Nat} {rows : List AV} {v : Value} (h : Rep E (begun d e rows) v) : Rep E (.sl .none e rows) v := by
  unfold begun at h
  split at h
  · rename_i h0
    rw [h0]
    exact rep_sl0 h
  · exact rep_own h
theorem begun_ok (d e : Nat) (rows : List AV) : resOK (begun d e rows) = true := by
  unfold begun
  split <;> rfl
theorem AC_weak' {P : Program} {f : FuncId} {args : List AV} {r r' : AV} (h : AC P f args r) (hr : ∀ E v, Rep E r v → Rep E r' v) (hok : resOK r' = true) : AC P f args r' := AC_weak h hr hok

/-- A filter. -/
def flV (any : Bool) (s : Option (List Int)) : AV := .agg [.lit (.bool any), asV s]
def lets (any : Bool) (l : List Int) (a : Int) : Bool := has l a != any

theorem C_Lets (any : Bool) (s : Option (List Int)) (a : Int) (hl : (asL s).length < 9223372036854775808) : AC Try.prog f_filt_Lets [flV any s, aI a] (.lit (.bool (lets any (asL s) a))) := by
  obtain ⟨t, e, es, ht, hg, he, htt⟩ := asV_cases s
  have hf : frB t = false := by rcases htt with rfl | ⟨rfl, _⟩ <;> rfl
  refine ac_filt_Lets ?_ (Nat.le_add_left 2 _)
  simp only [go_sem, Nat.reduceAdd, Nat.reduceLT, Nat.reduceEqDiff, Nat.reduceBEq, Nat.reduceLeDiff, Nat.reduceSub, Int.reduceToNat, reduceCtorEq, ↓reduceIte, c_filt_Lets, flV, es, ht]
  refine callX_of (C_Contains t e (asL s) a ht hf he hl) ?_
  simp only [go_sem, Nat.reduceAdd, Nat.reduceLT, Nat.reduceEqDiff, Nat.reduceBEq, Nat.reduceLeDiff, Nat.reduceSub, Int.reduceToNat, reduceCtorEq, ↓reduceIte]
  rfl

theorem C_Same (any any' : Bool) (s s' : Option (List Int)) (hl : (asL s).length < 9223372036854775808) : AC Try.prog f_filt_Same [flV any s, flV any' s'] (.lit (.bool ((any == any') && decide (asL s = asL s')))) := by
  obtain ⟨t, e, es, ht, hg, he, htt⟩ := asV_cases s
  have hf : frB t = false := by rcases htt with rfl | ⟨rfl, _⟩ <;> rfl
  obtain ⟨t', e', es', ht', hg', he', htt'⟩ := asV_cases s'
  have hf' : frB t' = false := by rcases htt' with rfl | ⟨rfl, _⟩ <;> rfl
  refine ac_filt_Same ?_ (Nat.le_add_left 2 _)
  simp only [go_sem, Nat.reduceAdd, Nat.reduceLT, Nat.reduceEqDiff, Nat.reduceBEq, Nat.reduceLeDiff, Nat.reduceSub, Int.reduceToNat, reduceCtorEq, ↓reduceIte, c_filt_Same, flV, es, es', ht, ht']
  by_cases h : any = any'
  · subst h
    simp only [go_sem, Nat.reduceAdd, Nat.reduceLT, Nat.reduceEqDiff, Nat.reduceBEq, Nat.reduceLeDiff, Nat.reduceSub, Int.reduceToNat, reduceCtorEq, ↓reduceIte, ht, ht']
    refine callX_of (C_Equal t t' e e' (asL s) (asL s') hf hf' he he' hl) ?_
    simp only [go_sem, Nat.reduceAdd, Nat.reduceLT, Nat.reduceEqDiff, Nat.reduceBEq, Nat.reduceLeDiff, Nat.reduceSub, Int.reduceToNat, reduceCtorEq, ↓reduceIte]
  · have hb : (any == any') = false := by simp [h]
    simp only [go_sem, Nat.reduceAdd, Nat.reduceLT, Nat.reduceEqDiff, Nat.reduceBEq, Nat.reduceLeDiff, Nat.reduceSub, Int.reduceToNat, reduceCtorEq, ↓reduceIte, hb]

/-- A key. -/
def keyV (p : Int × Int) : AV := .agg [aI p.1, aI p.2]
def keysOf (any : Bool) (l : List Int) (g : Int) : List (Int × Int) := if any then [(0, g)] else (rise l).map fun a => (a, g)

theorem W_Keys (s : Option (List Int)) (g : Int) (hl : (asL s).length ≤ 255) :
    aw Try.prog c_filt_Keys (env0 [flV false s, aI g]) (endQ v_filt_Keys (begun 26 2 ((keysOf false (asL s) g).map keyV))) := by
  have hC : ∃ s', lowerM [] (getC [(2, [.lit (.bool false), asV s])]) 8 (asV s) = some s' ∧ AC Try.prog f_filt_rising [s'] (.sl .none 1 ((rise (asL s)).map aI)) := by
    cases s with
    | none => exact ⟨_, rfl, by rw [show asL none = [] from rfl, rise_nil]; exact C_rising0 _ _⟩
    | some l => exact ⟨_, rfl, C_rising' l hl⟩
  obtain ⟨s', hlow, hC⟩ := hC
  have hlow : lower (getC [(2, [.lit (.bool false), asV s])]) 8 (asV s) = some s' := hlow
  have hR : (rise (asL s)).length ≤ 255 := Nat.le_trans (rise_len _) hl
  have hb : (asV s).row = true := asV_row s
  obtain ⟨t, e, es, ht, hg, he, htt⟩ := asV_cases s
  have hk : keysOf false (asL s) g = (rise (asL s)).map fun a => (a, g) := rfl
  rw [hk]
  generalize rise (asL s) = R at hR hC ⊢
  rw [es] at hlow
  simp only [go_sem, Nat.reduceAdd, Nat.reduceLT, Nat.reduceEqDiff, Nat.reduceBEq, Nat.reduceLeDiff, Nat.reduceSub, Int.reduceToNat, reduceCtorEq, ↓reduceIte, c_filt_Keys, flV, es, ht] at hlow ⊢
  obtain rfl : AV.sl t e ((asL s).map aI) = s' := by injection hlow
  refine callX_of hC ?_
  clear hC hlow hb es
  simp only [go_sem, Nat.reduceAdd, Nat.reduceLT, Nat.reduceEqDiff, Nat.reduceBEq, Nat.reduceLeDiff, Nat.reduceSub, Int.reduceToNat, reduceCtorEq, ↓reduceIte]
  refine aw_loopF (fun m E => ∃ (k : Nat) (y : AV), k + m = R.length ∧ (k = 0 ∧ y = .sl .nil 0 [] ∨ 0 < k ∧ y = .sl (.own [26]) 2 (((R.take k).map fun a => (a, g)).map keyV)) ∧
      E = mkE [(1, aI g), (5, y), (15, .sl .none 1 (R.map aI)), (16, .lit (.int .i64 R.length)), (17, .lit (.int .i64 (k : Nat)))] [(2, [.lit (.bool false), .sl t e ((asL s).map aI)])]) R.length
    (fun E' => E' = mkE [(5, begun 26 2 ((R.map fun a => (a, g)).map keyV))] [(2, [.lit (.bool false), .sl t e ((asL s).map aI)])]) ?_ ?_ ?_
  · exact ⟨0, _, by omega, .inl ⟨rfl, rfl⟩, by simp only [go_sem, Nat.reduceAdd, Nat.reduceLT, Nat.reduceEqDiff, Nat.reduceBEq, Nat.reduceLeDiff, Nat.reduceSub, Int.reduceToNat, reduceCtorEq, ↓reduceIte, Int.ofNat_zero]⟩
  · rintro m _ ⟨k, y, hk, hy, rfl⟩
    simp only [go_sem, Nat.reduceAdd, Nat.reduceLT, Nat.reduceEqDiff, Nat.reduceBEq, Nat.reduceLeDiff, Nat.reduceSub, Int.reduceToNat, reduceCtorEq, ↓reduceIte]
    refine condX_of (fun h => ?_) (fun h => ?_)
    · have hkl : k < R.length := by simpa using h
      obtain ⟨a, hka⟩ : ∃ a, R[k]? = some a := ⟨R[k], List.getElem?_eq_getElem hkl⟩
      have hw := wrap_succ k (by omega)
      have htk : ((R.take (k + 1)).map fun a => (a, g)).map keyV = ((R.take k).map fun a => (a, g)).map keyV ++ [.agg [aI a, aI g]] := by
        rw [List.take_add_one, hka]
        simp [keyV]
      have hrow : avRow 1 1 Tok.none (some (aI a)) = some (.rp [aI a]) := rfl
      have a1 : ∀ (s : List (Nat × AV)) (c : List (Nat × List AV)), avApp 2 8 [] 26 s c (.sl .nil 0 []) (.sl (.own [25]) 2 [.agg [aI a, aI g]]) = some (mkE (putA s 26 (.sl (.own [26]) 2 [.agg [aI a, aI g]])) c) := fun s c =>
        avApp_nilG 2 8 0 2 26 [] s c [] _ (.own [25]) (by simp) (by decide) (.inl rfl) rfl
      have a2 : ∀ (s : List (Nat × AV)) (c : List (Nat × List AV)), avApp 2 8 [] 26 s c (.sl (.own [26]) 2 (((R.take k).map fun a => (a, g)).map keyV)) (.sl (.own [25]) 2 [.agg [aI a, aI g]]) = some (mkE (putA (mapV (strip [26]) s) 26 (.sl (.own [26]) 2 (((R.take k).map fun a => (a, g)).map keyV ++ [.agg [aI a, aI g]]))) (mapV (stripL [26]) c)) := fun s c =>
        avApp_ownG 2 8 2 26 [] [26] s c _ _ (.own [25]) (by simp; omega) (by decide) rfl (.inl rfl) rfl
      rcases htt with rfl | ⟨rfl, _⟩
      all_goals
        rcases hy with ⟨rfl, rfl⟩ | ⟨h0, rfl⟩
        · simp only [go_sem, Nat.reduceAdd, Nat.reduceLT, Nat.reduceEqDiff, Nat.reduceBEq, Nat.reduceLeDiff, Nat.reduceSub, Int.reduceToNat, reduceCtorEq, ↓reduceIte, h, hka, Int.toNat_natCast, Int.natCast_nonneg, List.getElem?_map, hrow, a1, hw]
          exact ⟨m - 1, by omega, 0 + 1, _, by omega, .inr ⟨by omega, by rw [htk]; rfl⟩, rfl⟩
        · simp only [go_sem, Nat.reduceAdd, Nat.reduceLT, Nat.reduceEqDiff, Nat.reduceBEq, Nat.reduceLeDiff, Nat.reduceSub, Int.reduceToNat, reduceCtorEq, ↓reduceIte, h, hka, Int.toNat_natCast, Int.natCast_nonneg, List.getElem?_map, hrow, a2, hw]
          exact ⟨m - 1, by omega, k + 1, _, by omega, .inr ⟨by omega, by rw [htk]⟩, rfl⟩
    · have hkl : k = R.length := by have : ¬ k < R.length := by simpa using h
                                    omega
      subst hkl
      simp only [go_sem, Nat.reduceAdd, Nat.reduceLT, Nat.reduceEqDiff, Nat.reduceBEq, Nat.reduceLeDiff, Nat.reduceSub, Int.reduceToNat, reduceCtorEq, ↓reduceIte, h]
      rcases hy with ⟨h1, rfl⟩ | ⟨h1, rfl⟩
      · have hR0 : R = [] := List.length_eq_zero_iff.1 h1
        simp only [hR0, List.map_nil, begun, ↓reduceIte]
      · have hR0 : R ≠ [] := fun h => by rw [h] at h1; simp at h1
        simp only [List.take_length, begun, if_neg (show ((R.map fun a => (a, g)).map keyV) ≠ [] by simpa using hR0)]
  · rintro _ rfl
    unfold begun
    split <;> simp only [go_sem, Nat.reduceAdd, Nat.reduceLT, Nat.reduceEqDiff, Nat.reduceBEq, Nat.reduceLeDiff, Nat.reduceSub, Int.reduceToNat, reduceCtorEq, ↓reduceIte]

theorem C_Keys (any : Bool) (s : Option (List Int)) (g : Int) (hl : (asL s).length ≤ 255) : AC Try.prog f_filt_Keys [flV any s, aI g] (.sl .none 2 ((keysOf any (asL s) g).map keyV)) := by
  cases any with
  | false => exact AC_weak' (ac_filt_Keys (W_Keys s g hl) (Nat.le_add_left 2 _) (begun_ok _ _ _)) (fun E v h => rep_begun h) rfl
  | true =>
    refine AC_weak' (r := .sl (.own [12]) 2 ((keysOf true (asL s) g).map keyV)) (ac_filt_Keys ?_ (Nat.le_add_left 2 _)) (fun E v h => rep_own h) rfl
    obtain ⟨t, e, es, ht, hg, he, htt⟩ := asV_cases s
    simp only [go_sem, Nat.reduceAdd, Nat.reduceLT, Nat.reduceEqDiff, Nat.reduceBEq, Nat.reduceLeDiff, Nat.reduceSub, Int.reduceToNat, reduceCtorEq, ↓reduceIte, c_filt_Keys, flV, es, ht, keysOf, keyV]

/-! ### light -/
def lightB (l : List Mem) : Bool := l.all (fun m => decide (m.s.length ≤ 10)) && decide (l.length ≤ 12)

end Go.Proofs.Ytmjmfollimaleaa.VL
