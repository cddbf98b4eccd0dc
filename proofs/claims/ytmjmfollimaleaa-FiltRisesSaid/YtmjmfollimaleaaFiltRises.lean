/- rivuletlaw14.FiltRises: the walk. -/
import Derived.Test.YtmjmfollimaleaaFiltRef
set_option linter.unusedVariables false
set_option linter.unusedSimpArgs false
set_option maxHeartbeats 4000000
namespace Go.Proofs.Ytmjmfollimaleaa.VL
open Go.RowKit Go.Proofs Go.Sort

theorem C_FiltRises (l : List Mem) (k : Int) (hl : l.length < 9223372036854775808) : AC Try.prog f_rivuletlaw14_FiltRises [.sl .none 4 (l.map avM), .lit (.int .i64 k)] (.lit (.bool true)) := by
  refine ac_rivuletlaw14_FiltRises ?_ (Nat.le_add_left 2 _)
  simp only [go_sem, Nat.reduceAdd, Nat.reduceLT, Nat.reduceEqDiff, Nat.reduceBEq, Nat.reduceLeDiff, Nat.reduceSub, Int.reduceToNat, reduceCtorEq, ↓reduceIte, c_rivuletlaw14_FiltRises]
  refine callX_of C_first ?_
  simp only [go_sem, Nat.reduceAdd, Nat.reduceLT, Nat.reduceEqDiff, Nat.reduceBEq, Nat.reduceLeDiff, Nat.reduceSub, Int.reduceToNat, reduceCtorEq, ↓reduceIte]
  refine callX_of (C_light l hl) ?_
  cases hlt : lightB l with
  | false => simp only [go_sem, Nat.reduceAdd, Nat.reduceLT, Nat.reduceEqDiff, Nat.reduceBEq, Nat.reduceLeDiff, Nat.reduceSub, Int.reduceToNat, reduceCtorEq, ↓reduceIte]
  | true =>
    have hn := lightB_len hlt
    have hf := few_of hlt
    have hall : (allOf l).length ≤ 255 := by have := few_all hf; omega
    simp only [go_sem, Nat.reduceAdd, Nat.reduceLT, Nat.reduceEqDiff, Nat.reduceBEq, Nat.reduceLeDiff, Nat.reduceSub, Int.reduceToNat, reduceCtorEq, ↓reduceIte]
    refine condX_of (fun h => ?_) (fun h => ?_)
    · simp only [go_sem, Nat.reduceAdd, Nat.reduceLT, Nat.reduceEqDiff, Nat.reduceBEq, Nat.reduceLeDiff, Nat.reduceSub, Int.reduceToNat, reduceCtorEq, ↓reduceIte]
    · have h6 : l.length ≤ 6 := by have : ¬ (6 : Int) < (l.length : Int) := by simpa using h
                                   omega
      have hris := srcOf_rising l
      have hsl := src_len l
      have hb : ((l.length + 1 : Nat) : Int) = (l.length : Int) + 1 := by omega
      have hw0 := iwn (l.length + 1) hb.symm (by omega)
      have hN := C_Number k ((l.length + 1 : Nat) : Int) (by omega) (by omega)
      obtain ⟨K, hK⟩ : ∃ K : Nat, k % ((l.length + 1 : Nat) : Int) = (K : Int) := ⟨(k % ((l.length + 1 : Nat) : Int)).toNat, by have := Int.emod_nonneg k (show ((l.length + 1 : Nat) : Int) ≠ 0 by omega); omega⟩
      have hKl : K ≤ l.length := by have := Int.emod_lt_of_pos k (show (0 : Int) < ((l.length + 1 : Nat) : Int) by omega); omega
      rw [hK] at hN
      have hC := C_Of l hall (by omega)
      have hfT : Few (l ++ l.take K) := fun x hx => by
        rcases List.mem_append.1 hx with hx | hx
        · exact hf x hx
        · exact hf x (List.mem_of_mem_take hx)
      have haT : (allOf (l ++ l.take K)).length ≤ 255 := by
        have := few_all hfT
        simp only [List.length_append, List.length_take] at this
        omega
      have hT := C_Of (l ++ l.take K) haT (by simp; omega)
      obtain ⟨x1, x2⟩ := src_ext (l := l) (l' := l ++ l.take K) fun x => by
        rw [List.mem_append]
        exact ⟨.inl, fun h => h.elim id List.mem_of_mem_take⟩
      have hS := C_Same (anyOf l) (anyOf l) (some (srcOf l)) (some (srcOf l)) (by show (srcOf l).length < _; omega)
      have hA := C_SameAddrs .none .none 1 1 (srcOf l) (srcOf l) rfl rfl (.inl rfl) (.inl rfl) (by omega)
      rw [← x1, ← x2, List.map_append] at hT
      simp only [beq_self_eq_true, decide_true, Bool.and_self] at hS hA
      have q2 : avSl 4 .none 4 (l.map avM) (some ((0 : Nat) : Int)) (some (K : Int)) = some (.sl .none 4 ((l.take K).map avM)) := by
        rw [avSl_some 4 .none (l.map avM) _ _ rfl (by simp; omega), Int.toNat_natCast, Int.toNat_natCast, List.drop_zero, List.map_take]
        rfl
      have a1 : ∀ (s : List (Nat × AV)) (c : List (Nat × List AV)), avApp 4 40 [] 50 s c (.sl (.own [48]) 4 []) (.sl .none 4 (l.map avM)) = some (mkE (putA (mapV (strip [48]) s) 50 (.sl (.own [50]) 4 (l.map avM))) (mapV (stripL [48]) c)) := fun s c =>
        avApp_ownG 4 40 4 50 [] [48] s c [] _ .none (by simp; omega) (by decide) rfl (.inl rfl) rfl
      have htl : (l.take K).length ≤ 6 := by simp; omega
      have a2 : ∀ (s : List (Nat × AV)) (c : List (Nat × List AV)), avApp 4 40 [48] 54 s c (.sl (.own [50]) 4 (l.map avM)) (.sl .none 4 ((l.take K).map avM)) = some (mkE (putA (mapV (strip [50]) s) 54 (.sl (.own [54]) 4 (l.map avM ++ (l.take K).map avM))) (mapV (stripL [50]) c)) := fun s c =>
        avApp_ownG 4 40 4 54 [48] [50] s c _ _ .none (by simp only [List.length_map]; omega) (by decide) rfl (.inl rfl) rfl
      generalize srcOf l = R at hris hsl hC hT hS hA
      simp only [go_sem, Nat.reduceAdd, Nat.reduceLT, Nat.reduceEqDiff, Nat.reduceBEq, Nat.reduceLeDiff, Nat.reduceSub, Int.reduceToNat, reduceCtorEq, ↓reduceIte]
      refine callX_of hC ?_
      simp only [go_sem, Nat.reduceAdd, Nat.reduceLT, Nat.reduceEqDiff, Nat.reduceBEq, Nat.reduceLeDiff, Nat.reduceSub, Int.reduceToNat, reduceCtorEq, ↓reduceIte]
      refine aw_loop (fun m E => ∃ i, 1 ≤ i ∧ R.length - i ≤ m ∧ i ≤ R.length + 1 ∧ E = mkE [(0, .sl .none 4 (l.map avM)), (1, .lit (.int .i64 k)), (5, .lit (.bool true)), (6, .lp 6 0), (7, .lit (.int .i64 (i : Nat)))] [(6, [.lit (.bool (anyOf l)), .sl .none 1 (R.map aI)])]) R.length ?_ ?_
      · exact ⟨1, Nat.le_refl _, by omega, by omega, by simp only [go_sem, Nat.reduceAdd, Nat.reduceLT, Nat.reduceEqDiff, Nat.reduceBEq, Nat.reduceLeDiff, Nat.reduceSub, Int.reduceToNat, reduceCtorEq, ↓reduceIte, Int.natCast_one]⟩
      · rintro m _ ⟨i, h1, hm, hi, rfl⟩
        simp only [go_sem, Nat.reduceAdd, Nat.reduceLT, Nat.reduceEqDiff, Nat.reduceBEq, Nat.reduceLeDiff, Nat.reduceSub, Int.reduceToNat, reduceCtorEq, ↓reduceIte]
        refine condX_of (fun h => ?_) (fun h => ?_)
        · have hil : i < R.length := by simpa using h
          obtain ⟨x, hx⟩ : ∃ x, R[i]? = some x := ⟨R[i], List.getElem?_eq_getElem hil⟩
          obtain ⟨y, hy⟩ : ∃ y, R[i - 1]? = some y := ⟨R[i - 1], List.getElem?_eq_getElem (by omega)⟩
          have hw := wrap_succ i (by omega)
          have w1 := iwn (i - 1) (by omega : (i : Int) - 1 = ((i - 1 : Nat) : Int)) (by omega)
          have hk1 : decide (((i - 1 : Nat) : Int) < (R.length : Int)) = true := by simp; omega
          have hyx : y < x := by
            obtain ⟨i1, e1⟩ := List.getElem?_eq_some_iff.1 hy
            obtain ⟨i2, e2⟩ := List.getElem?_eq_some_iff.1 hx
            rw [← e1, ← e2]
            exact List.pairwise_iff_getElem.1 hris (i - 1) i i1 i2 (by omega)
          have f2 : (x ≤ y) = False := eq_false (by omega)
          have hr : ∀ z : Int, avRow 1 1 Tok.none (some (aI z)) = some (.rp [aI z]) := fun _ => rfl
          simp only [go_sem, Nat.reduceAdd, Nat.reduceLT, Nat.reduceEqDiff, Nat.reduceBEq, Nat.reduceLeDiff, Nat.reduceSub, Int.reduceToNat, reduceCtorEq, ↓reduceIte, f2, w1, h, hk1, hx, hy, of_decide_eq_true h, of_decide_eq_true hk1, decide_true, decide_false, hw, Int.toNat_natCast, Int.natCast_nonneg, List.getElem?_map, hr]
          exact ⟨m - 1, by omega, i + 1, by omega, by omega, by omega, rfl⟩
        · simp only [go_sem, Nat.reduceAdd, Nat.reduceLT, Nat.reduceEqDiff, Nat.reduceBEq, Nat.reduceLeDiff, Nat.reduceSub, Int.reduceToNat, reduceCtorEq, ↓reduceIte, hw0]
          refine callX_of hN ?_
          simp only [go_sem, Nat.reduceAdd, Nat.reduceLT, Nat.reduceEqDiff, Nat.reduceBEq, Nat.reduceLeDiff, Nat.reduceSub, Int.reduceToNat, reduceCtorEq, ↓reduceIte, q2, a1, a2]
          refine callX_of hT ?_
          simp only [go_sem, Nat.reduceAdd, Nat.reduceLT, Nat.reduceEqDiff, Nat.reduceBEq, Nat.reduceLeDiff, Nat.reduceSub, Int.reduceToNat, reduceCtorEq, ↓reduceIte]
          refine callX_of hS ?_
          simp only [go_sem, Nat.reduceAdd, Nat.reduceLT, Nat.reduceEqDiff, Nat.reduceBEq, Nat.reduceLeDiff, Nat.reduceSub, Int.reduceToNat, reduceCtorEq, ↓reduceIte]
          refine callX_of hA ?_
          simp only [go_sem, Nat.reduceAdd, Nat.reduceLT, Nat.reduceEqDiff, Nat.reduceBEq, Nat.reduceLeDiff, Nat.reduceSub, Int.reduceToNat, reduceCtorEq, ↓reduceIte]

end Go.Proofs.Ytmjmfollimaleaa.VL
