/- filt, the document's own answers, part 4: FilterKeys, SameKeys. -/
import Derived.Test.YtmjmfollimaleaaFiltRef3
set_option linter.unusedVariables false
set_option linter.unusedSimpArgs false
set_option maxHeartbeats 4000000
namespace Go.Proofs.Ytmjmfollimaleaa.VL
open Go.RowKit Go.Proofs Go.Sort

theorem mem_puts {b : Int} : ∀ {L acc : List Int}, b ∈ L.foldl putIn acc ↔ b ∈ acc ∨ b ∈ L
  | [], acc => by simp
  | a :: L, acc => by
    rw [List.foldl_cons, mem_puts, mem_put, List.mem_cons]
    constructor
    · rintro ((h | h) | h)
      · exact .inr (.inl h)
      · exact .inl h
      · exact .inr (.inr h)
    · rintro (h | h | h)
      · exact .inl (.inr h)
      · exact .inl (.inl h)
      · exact .inr h
theorem puts_rising : ∀ {L acc : List Int}, Rising acc → Rising (L.foldl putIn acc)
  | [], acc, h => h
  | a :: L, acc, h => by
    rw [List.foldl_cons]
    exact puts_rising (put_rising h)
theorem puts_rise (l : List Int) : l.foldl putIn [] = rise l :=
  rising_ext (puts_rising List.Pairwise.nil) (rise_rising l) fun a => by rw [mem_puts, mem_rise]; simp
theorem puts_len : ∀ (L acc : List Int), (L.foldl putIn acc).length ≤ acc.length + L.length
  | [], acc => by simp
  | a :: L, acc => by
    have h1 := puts_len L (putIn acc a)
    have h2 := put_len a acc
    simp only [List.foldl_cons, List.length_cons]
    omega

theorem W_FilterKeys (l : List Int) (g : Int) (hl : l.length ≤ 255) :
    aw Try.prog c_rivuletref8_FilterKeys (env0 [flV false (some l), aI g]) (endQ v_rivuletref8_FilterKeys (begun 42 2 ((keysOf false l g).map keyV))) := by
  have hr : ∀ z : Int, avRow 1 1 Tok.none (some (aI z)) = some (.rp [aI z]) := fun _ => rfl
  simp only [go_sem, Nat.reduceAdd, Nat.reduceLT, Nat.reduceEqDiff, Nat.reduceBEq, Nat.reduceLeDiff, Nat.reduceSub, Int.reduceToNat, reduceCtorEq, ↓reduceIte, c_rivuletref8_FilterKeys, flV, asV]
  refine aw_loop (fun m E => ∃ k, k + m = l.length ∧ E = mkE [(1, aI g), (2, .lp 2 0), (5, yF ((l.take k).foldl putIn [])), (6, .lit (.int .i64 (k : Nat)))] [(2, [.lit (.bool false), .sl .none 1 (l.map aI)])]) l.length ?_ ?_
  · exact ⟨0, by omega, by simp only [go_sem, Nat.reduceAdd, Nat.reduceLT, Nat.reduceEqDiff, Nat.reduceBEq, Nat.reduceLeDiff, Nat.reduceSub, Int.reduceToNat, reduceCtorEq, ↓reduceIte, Int.ofNat_zero]; rfl⟩
  · rintro m _ ⟨k, hk, rfl⟩
    simp only [go_sem, Nat.reduceAdd, Nat.reduceLT, Nat.reduceEqDiff, Nat.reduceBEq, Nat.reduceLeDiff, Nat.reduceSub, Int.reduceToNat, reduceCtorEq, ↓reduceIte]
    refine condX_of (fun h => ?_) (fun h => ?_)
    · have hkl : k < l.length := by simpa using h
      obtain ⟨x, hx⟩ : ∃ x, l[k]? = some x := ⟨l[k], List.getElem?_eq_getElem hkl⟩
      have hw := wrap_succ k (by omega)
      have hstep : (l.take (k + 1)).foldl putIn [] = putIn ((l.take k).foldl putIn []) x := foldl_take _ _ _ hx
      have hlen := puts_len (l.take k) []
      rw [List.length_take] at hlen
      generalize (l.take k).foldl putIn [] = acc at hstep hlen ⊢
      obtain ⟨t2, e2, hy, ht2, ht3, hput⟩ := C_PutY acc x (by simp at hlen; omega)
      rw [yF_put] at hput
      rw [hy]
      simp only [go_sem, Nat.reduceAdd, Nat.reduceLT, Nat.reduceEqDiff, Nat.reduceBEq, Nat.reduceLeDiff, Nat.reduceSub, Int.reduceToNat, reduceCtorEq, ↓reduceIte, h, hx, Int.toNat_natCast, Int.natCast_nonneg, List.getElem?_map, hr, hw, ht2]
      refine callX_of hput ?_
      simp only [go_sem, Nat.reduceAdd, Nat.reduceLT, Nat.reduceEqDiff, Nat.reduceBEq, Nat.reduceLeDiff, Nat.reduceSub, Int.reduceToNat, reduceCtorEq, ↓reduceIte, hw]
      exact ⟨m - 1, by omega, k + 1, by omega, by rw [hstep, yF_put]⟩
    · have hkl : k = l.length := by have : ¬ k < l.length := by simpa using h
                                    omega
      subst hkl
      have hR : (rise l).length ≤ 255 := Nat.le_trans (rise_len _) hl
      have hks : keysOf false l g = (rise l).map fun x => (x, g) := rfl
      rw [hks]
      simp only [go_sem, Nat.reduceAdd, Nat.reduceLT, Nat.reduceEqDiff, Nat.reduceBEq, Nat.reduceLeDiff, Nat.reduceSub, Int.reduceToNat, reduceCtorEq, ↓reduceIte, h, List.take_length, puts_rise]
      generalize rise l = R at hR ⊢
      have hyR : ∃ t e, yF R = .sl t e (R.map aI) ∧ (t = .none ∧ e = 1 ∨ R = []) ∧ (t = .none ∨ t = .nil) := by
        by_cases h0 : R = []
        · exact ⟨.nil, 0, by rw [yF, if_pos h0, h0]; rfl, .inr h0, .inr rfl⟩
        · exact ⟨.none, 1, if_neg h0, .inl ⟨rfl, rfl⟩, .inl rfl⟩
      obtain ⟨t, e, hy, hte, htt⟩ := hyR
      rw [hy]
      refine aw_loopF (fun m E => ∃ (k : Nat) (y : AV), k + m = R.length ∧ (k = 0 ∧ y = .sl .nil 0 [] ∨ 0 < k ∧ y = .sl (.own [42]) 2 (((R.take k).map fun a => (a, g)).map keyV)) ∧
          E = mkE [(1, aI g), (5, .sl t e (R.map aI)), (7, y), (8, .lit (.int .i64 (k : Nat)))] [(2, [.lit (.bool false), .sl .none 1 (l.map aI)])]) R.length
        (fun E' => E' = mkE [(7, begun 42 2 ((R.map fun a => (a, g)).map keyV))] [(2, [.lit (.bool false), .sl .none 1 (l.map aI)])]) ?_ ?_ ?_
      · exact ⟨0, _, by omega, .inl ⟨rfl, rfl⟩, by simp only [go_sem, Nat.reduceAdd, Nat.reduceLT, Nat.reduceEqDiff, Nat.reduceBEq, Nat.reduceLeDiff, Nat.reduceSub, Int.reduceToNat, reduceCtorEq, ↓reduceIte, Int.ofNat_zero]⟩
      · clear hk h
        rintro m _ ⟨k, y, hk, hyy, rfl⟩
        simp only [go_sem, Nat.reduceAdd, Nat.reduceLT, Nat.reduceEqDiff, Nat.reduceBEq, Nat.reduceLeDiff, Nat.reduceSub, Int.reduceToNat, reduceCtorEq, ↓reduceIte]
        refine condX_of (fun h => ?_) (fun h => ?_)
        · have hkl : k < R.length := by simpa using h
          obtain ⟨a, hka⟩ : ∃ a, R[k]? = some a := ⟨R[k], List.getElem?_eq_getElem hkl⟩
          obtain ⟨rfl, rfl⟩ := hte.resolve_right (fun h => by rw [h] at hkl; simp at hkl)
          have hw := wrap_succ k (by omega)
          have htk : ((R.take (k + 1)).map fun a => (a, g)).map keyV = ((R.take k).map fun a => (a, g)).map keyV ++ [.agg [aI a, aI g]] := by
            rw [List.take_add_one, hka]
            simp [keyV]
          have a1 : ∀ (s : List (Nat × AV)) (c : List (Nat × List AV)), avApp 2 8 [] 42 s c (.sl .nil 0 []) (.sl (.own [41]) 2 [.agg [aI a, aI g]]) = some (mkE (putA s 42 (.sl (.own [42]) 2 [.agg [aI a, aI g]])) c) := fun s c =>
            avApp_nilG 2 8 0 2 42 [] s c [] _ (.own [41]) (by simp) (by decide) (.inl rfl) rfl
          have a2 : ∀ (s : List (Nat × AV)) (c : List (Nat × List AV)), avApp 2 8 [] 42 s c (.sl (.own [42]) 2 (((R.take k).map fun a => (a, g)).map keyV)) (.sl (.own [41]) 2 [.agg [aI a, aI g]]) = some (mkE (putA (mapV (strip [42]) s) 42 (.sl (.own [42]) 2 (((R.take k).map fun a => (a, g)).map keyV ++ [.agg [aI a, aI g]]))) (mapV (stripL [42]) c)) := fun s c =>
            avApp_ownG 2 8 2 42 [] [42] s c _ _ (.own [41]) (by simp; omega) (by decide) rfl (.inl rfl) rfl
          rcases hyy with ⟨rfl, rfl⟩ | ⟨h0, rfl⟩
          · simp only [go_sem, Nat.reduceAdd, Nat.reduceLT, Nat.reduceEqDiff, Nat.reduceBEq, Nat.reduceLeDiff, Nat.reduceSub, Int.reduceToNat, reduceCtorEq, ↓reduceIte, h, hka, Int.toNat_natCast, Int.natCast_nonneg, List.getElem?_map, hr, a1, hw]
            exact ⟨m - 1, by omega, 0 + 1, _, by omega, .inr ⟨by omega, by rw [htk]; rfl⟩, rfl⟩
          · simp only [go_sem, Nat.reduceAdd, Nat.reduceLT, Nat.reduceEqDiff, Nat.reduceBEq, Nat.reduceLeDiff, Nat.reduceSub, Int.reduceToNat, reduceCtorEq, ↓reduceIte, h, hka, Int.toNat_natCast, Int.natCast_nonneg, List.getElem?_map, hr, a2, hw]
            exact ⟨m - 1, by omega, k + 1, _, by omega, .inr ⟨by omega, by rw [htk]⟩, rfl⟩
        · have hkl : k = R.length := by have : ¬ k < R.length := by simpa using h
                                        omega
          subst hkl
          simp only [go_sem, Nat.reduceAdd, Nat.reduceLT, Nat.reduceEqDiff, Nat.reduceBEq, Nat.reduceLeDiff, Nat.reduceSub, Int.reduceToNat, reduceCtorEq, ↓reduceIte, h]
          rcases hyy with ⟨h1, rfl⟩ | ⟨h1, rfl⟩
          · have hR0 : R = [] := List.length_eq_zero_iff.1 h1
            simp only [hR0, List.map_nil, begun, ↓reduceIte]
          · have hR0 : R ≠ [] := fun h => by rw [h] at h1; simp at h1
            simp only [List.take_length, begun, if_neg (show ((R.map fun a => (a, g)).map keyV) ≠ [] by simpa using hR0)]
      · rintro _ rfl
        unfold begun
        split <;> simp only [go_sem, Nat.reduceAdd, Nat.reduceLT, Nat.reduceEqDiff, Nat.reduceBEq, Nat.reduceLeDiff, Nat.reduceSub, Int.reduceToNat, reduceCtorEq, ↓reduceIte]

theorem C_FilterKeys (any : Bool) (l : List Int) (g : Int) (hl : l.length ≤ 255) : AC Try.prog f_rivuletref8_FilterKeys [flV any (some l), aI g] (.sl .none 2 ((keysOf any l g).map keyV)) := by
  cases any with
  | false => exact AC_weak' (ac_rivuletref8_FilterKeys (W_FilterKeys l g hl) (Nat.le_add_left 2 _) (begun_ok _ _ _)) (fun E v h => rep_begun h) rfl
  | true =>
    refine AC_weak' (r := .sl (.own [13]) 2 ((keysOf true l g).map keyV)) (ac_rivuletref8_FilterKeys ?_ (Nat.le_add_left 2 _)) (fun E v h => rep_own h) rfl
    simp only [go_sem, Nat.reduceAdd, Nat.reduceLT, Nat.reduceEqDiff, Nat.reduceBEq, Nat.reduceLeDiff, Nat.reduceSub, Int.reduceToNat, reduceCtorEq, ↓reduceIte, c_rivuletref8_FilterKeys, flV, asV, keysOf, keyV]

theorem C_SameKey (p q : Int × Int) : AC Try.prog f_rivuletref_SameKey [keyV p, keyV q] (.lit (.bool (p.1 == q.1 && p.2 == q.2))) := by
  refine ac_rivuletref_SameKey ?_ (Nat.le_add_left 2 _)
  simp only [go_sem, Nat.reduceAdd, Nat.reduceLT, Nat.reduceEqDiff, Nat.reduceBEq, Nat.reduceLeDiff, Nat.reduceSub, Int.reduceToNat, reduceCtorEq, ↓reduceIte, c_rivuletref_SameKey, keyV]
  cases h : p.1 == q.1 with
  | true => simp only [go_sem, Nat.reduceAdd, Nat.reduceLT, Nat.reduceEqDiff, Nat.reduceBEq, Nat.reduceLeDiff, Nat.reduceSub, Int.reduceToNat, reduceCtorEq, ↓reduceIte]
  | false => simp only [go_sem, Nat.reduceAdd, Nat.reduceLT, Nat.reduceEqDiff, Nat.reduceBEq, Nat.reduceLeDiff, Nat.reduceSub, Int.reduceToNat, reduceCtorEq, ↓reduceIte]

theorem keyV_row2 (p : Int × Int) : avRow 2 2 Tok.none (some (keyV p)) = some (.rp [aI p.1, aI p.2]) := rfl

theorem C_SameKeys (l : List (Int × Int)) (hl : l.length < 9223372036854775808) : AC Try.prog f_rivuletref_SameKeys [.sl .none 2 (l.map keyV), .sl .none 2 (l.map keyV)] (.lit (.bool true)) := by
  refine ac_rivuletref_SameKeys ?_ (Nat.le_add_left 2 _)
  simp only [go_sem, Nat.reduceAdd, Nat.reduceLT, Nat.reduceEqDiff, Nat.reduceBEq, Nat.reduceLeDiff, Nat.reduceSub, Int.reduceToNat, reduceCtorEq, ↓reduceIte, c_rivuletref_SameKeys, bne_self_eq_false]
  refine aw_loop (fun m E => ∃ k, k + m = l.length ∧ E = mkE [(0, .sl .none 2 (l.map keyV)), (1, .sl .none 2 (l.map keyV)), (5, .lit (.int .i64 (k : Nat)))] []) l.length ?_ ?_
  · exact ⟨0, by omega, by simp only [go_sem, Nat.reduceAdd, Nat.reduceLT, Nat.reduceEqDiff, Nat.reduceBEq, Nat.reduceLeDiff, Nat.reduceSub, Int.reduceToNat, reduceCtorEq, ↓reduceIte, Int.ofNat_zero]⟩
  · rintro m _ ⟨k, hk, rfl⟩
    simp only [go_sem, Nat.reduceAdd, Nat.reduceLT, Nat.reduceEqDiff, Nat.reduceBEq, Nat.reduceLeDiff, Nat.reduceSub, Int.reduceToNat, reduceCtorEq, ↓reduceIte]
    refine condX_of (fun h => ?_) (fun h => ?_)
    · have hkl : k < l.length := by simpa using h
      obtain ⟨x, hx⟩ : ∃ x, l[k]? = some x := ⟨l[k], List.getElem?_eq_getElem hkl⟩
      have hw := wrap_succ k (by omega)
      have hC := C_SameKey x x
      simp only [beq_self_eq_true, Bool.and_self] at hC
      simp only [go_sem, Nat.reduceAdd, Nat.reduceLT, Nat.reduceEqDiff, Nat.reduceBEq, Nat.reduceLeDiff, Nat.reduceSub, Int.reduceToNat, reduceCtorEq, ↓reduceIte, h, hx, Int.toNat_natCast, Int.natCast_nonneg, List.getElem?_map, keyV_row2]
      refine callX_of hC ?_
      simp only [go_sem, Nat.reduceAdd, Nat.reduceLT, Nat.reduceEqDiff, Nat.reduceBEq, Nat.reduceLeDiff, Nat.reduceSub, Int.reduceToNat, reduceCtorEq, ↓reduceIte, hw]
      exact ⟨m - 1, by omega, k + 1, by omega, rfl⟩
    · simp only [go_sem, Nat.reduceAdd, Nat.reduceLT, Nat.reduceEqDiff, Nat.reduceBEq, Nat.reduceLeDiff, Nat.reduceSub, Int.reduceToNat, reduceCtorEq, ↓reduceIte, h]

end Go.Proofs.Ytmjmfollimaleaa.VL
