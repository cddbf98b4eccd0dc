/- rivuletlaw14.FiltKeys: the walk. -/
import Derived.Test.YtmjmfollimaleaaFiltLaw
set_option linter.unusedVariables false
set_option linter.unusedSimpArgs false
set_option maxHeartbeats 4000000
namespace Go.Proofs.Ytmjmfollimaleaa.VL
open Go.RowKit Go.Proofs Go.Sort

theorem keyV_row (x g : Int) : avRow 2 2 Tok.none (some (.agg [aI x, aI g])) = some (.rp [aI x, aI g]) := rfl

theorem C_FiltKeys (l : List Mem) (g a : Int) (hl : l.length < 9223372036854775808) : AC Try.prog f_rivuletlaw14_FiltKeys [.sl .none 4 (l.map avM), aI g, aI a] (.lit (.bool true)) := by
  refine ac_rivuletlaw14_FiltKeys ?_ (Nat.le_add_left 3 _)
  simp only [go_sem, Nat.reduceAdd, Nat.reduceLT, Nat.reduceEqDiff, Nat.reduceBEq, Nat.reduceLeDiff, Nat.reduceSub, Int.reduceToNat, reduceCtorEq, ↓reduceIte, c_rivuletlaw14_FiltKeys]
  refine callX_of C_first ?_
  simp only [go_sem, Nat.reduceAdd, Nat.reduceLT, Nat.reduceEqDiff, Nat.reduceBEq, Nat.reduceLeDiff, Nat.reduceSub, Int.reduceToNat, reduceCtorEq, ↓reduceIte]
  refine callX_of (C_light l hl) ?_
  by_cases hlt : lightB l = true
  · have hn := lightB_len hlt
    have hall : (allOf l).length ≤ 255 := by have := lightB_all hlt; omega
    have hsl := src_len l
    have hrl := rise_len (srcOf l)
    have hK := C_Keys (anyOf l) (some (srcOf l)) g (show (srcOf l).length ≤ 255 by omega)
    rw [show asL (some (srcOf l)) = srcOf l from rfl] at hK
    simp only [go_sem, Nat.reduceAdd, Nat.reduceLT, Nat.reduceEqDiff, Nat.reduceBEq, Nat.reduceLeDiff, Nat.reduceSub, Int.reduceToNat, reduceCtorEq, ↓reduceIte, hlt]
    refine callX_of (C_Of l hall (by omega)) ?_
    simp only [go_sem, Nat.reduceAdd, Nat.reduceLT, Nat.reduceEqDiff, Nat.reduceBEq, Nat.reduceLeDiff, Nat.reduceSub, Int.reduceToNat, reduceCtorEq, ↓reduceIte]
    refine callX_of hK ?_
    cases hany : anyOf l with
    | true =>
      simp only [go_sem, Nat.reduceAdd, Nat.reduceLT, Nat.reduceEqDiff, Nat.reduceBEq, Nat.reduceLeDiff, Nat.reduceSub, Int.reduceToNat, reduceCtorEq, ↓reduceIte, hany, keysOf, keyV, keyV_row, show (((1 : Nat) : Int) == 1) = true from rfl, Int.le_refl, List.getElem?_cons_zero]
    | false =>
      have hLt := fun x => C_LetsOf l x hall
      have hadm : ∀ x ∈ rise (srcOf l), (l.any fun m => admits m x) = true := fun x hx => by
        have := (mem_src.1 (mem_rise.1 hx)).2
        rw [hany] at this
        revert this
        cases (l.any fun m => admits m x) <;> simp
      have hris := rise_rising (srcOf l)
      have hend : (l.any fun m => admits m a) = (rise (srcOf l)).any fun x => x == a := by
        rw [← lets_of, hany, lets, ← has_eq (l := rise (srcOf l)) mem_rise, has]
        have e : (fun x => a == x) = fun x : Int => x == a := by
          funext x
          apply Bool.eq_iff_iff.2
          rw [beq_iff_eq, beq_iff_eq]
          exact ⟨fun h => h.symm, fun h => h.symm⟩
        rw [e]
        cases (rise (srcOf l)).any fun x => x == a <;> rfl
      have hks : keysOf false (srcOf l) g = (rise (srcOf l)).map fun x => (x, g) := rfl
      rw [hany] at hLt
      rw [hks]
      generalize rise (srcOf l) = R at hrl hadm hris hend ⊢
      simp only [go_sem, Nat.reduceAdd, Nat.reduceLT, Nat.reduceEqDiff, Nat.reduceBEq, Nat.reduceLeDiff, Nat.reduceSub, Int.reduceToNat, reduceCtorEq, ↓reduceIte, hany]
      refine aw_loop (fun m E => ∃ k, k + m = R.length ∧ E = mkE [(1, aI g), (2, aI a), (8, .lp 8 0), (9, .sl .none 2 ((R.map fun x => (x, g)).map keyV)), (10, .lit (.bool ((R.take k).any fun x => x == a))), (11, .lit (.int .i64 (k : Nat)))] [(8, [.lit (.bool false), .sl .none 1 ((srcOf l).map aI)])]) R.length ?_ ?_
      · exact ⟨0, by omega, by simp only [go_sem, Nat.reduceAdd, Nat.reduceLT, Nat.reduceEqDiff, Nat.reduceBEq, Nat.reduceLeDiff, Nat.reduceSub, Int.reduceToNat, reduceCtorEq, ↓reduceIte, Int.ofNat_zero, List.any_nil]⟩
      · rintro m _ ⟨k, hk, rfl⟩
        simp only [go_sem, Nat.reduceAdd, Nat.reduceLT, Nat.reduceEqDiff, Nat.reduceBEq, Nat.reduceLeDiff, Nat.reduceSub, Int.reduceToNat, reduceCtorEq, ↓reduceIte]
        refine condX_of (fun h => ?_) (fun h => ?_)
        · have hkl : k < R.length := by simpa using h
          obtain ⟨x, hx⟩ : ∃ x, R[k]? = some x := ⟨R[k], List.getElem?_eq_getElem hkl⟩
          have hw := wrap_succ k (by omega)
          have hLx := hLt x
          rw [hadm x (List.mem_of_getElem? hx)] at hLx
          have hat := any_take (fun x => x == a) R hx
          have hgg : (g != g) = false := by simp
          simp only [go_sem, Nat.reduceAdd, Nat.reduceLT, Nat.reduceEqDiff, Nat.reduceBEq, Nat.reduceLeDiff, Nat.reduceSub, Int.reduceToNat, reduceCtorEq, ↓reduceIte, h, hx, Int.toNat_natCast, Int.natCast_nonneg, List.getElem?_map, keyV, keyV_row, hgg]
          refine callX_of hLx ?_
          have fin : ∀ b : Bool, b = (((R.take k).any fun x => x == a) || x == a) → ∃ k', k' < m ∧ ∃ k1, k1 + k' = R.length ∧
              mkE [(1, aI g), (2, aI a), (8, .lp 8 0), (9, .sl .none 2 ((R.map fun x => (x, g)).map fun p => .agg [aI p.1, aI p.2])), (10, .lit (.bool b)), (11, .lit (.int .i64 ((k + 1 : Nat) : Int)))] [(8, [.lit (.bool false), .sl .none 1 ((srcOf l).map aI)])] =
              mkE [(1, aI g), (2, aI a), (8, .lp 8 0), (9, .sl .none 2 ((R.map fun x => (x, g)).map fun p => .agg [aI p.1, aI p.2])), (10, .lit (.bool ((R.take k1).any fun x => x == a))), (11, .lit (.int .i64 (k1 : Nat)))] [(8, [.lit (.bool false), .sl .none 1 ((srcOf l).map aI)])] := by
            rintro b rfl
            exact ⟨m - 1, by omega, k + 1, by omega, by rw [hat]⟩
          by_cases h0 : 0 < k
          · have f1 : ((0 : Int) < (k : Int)) = True := eq_true (by omega)
            have w1 := iwn (k - 1) (by omega : (k : Int) - 1 = ((k - 1 : Nat) : Int)) (by omega)
            obtain ⟨y, hy⟩ : ∃ y, R[k - 1]? = some y := ⟨R[k - 1], List.getElem?_eq_getElem (by omega)⟩
            have hk1 : decide (((k - 1 : Nat) : Int) < (R.length : Int)) = true := by simp; omega
            have hyx : y < x := by
              obtain ⟨i1, e1⟩ := List.getElem?_eq_some_iff.1 hy
              obtain ⟨i2, e2⟩ := List.getElem?_eq_some_iff.1 hx
              rw [← e1, ← e2]
              exact List.pairwise_iff_getElem.1 hris (k - 1) k i1 i2 (by omega)
            have f2 : (x ≤ y) = False := eq_false (by omega)
            cases hb : (R.take k).any fun x => x == a with
            | true =>
              rw [hb] at fin
              simp only [go_sem, Nat.reduceAdd, Nat.reduceLT, Nat.reduceEqDiff, Nat.reduceBEq, Nat.reduceLeDiff, Nat.reduceSub, Int.reduceToNat, reduceCtorEq, ↓reduceIte, f1, f2, w1, h, hk1, hx, hy, of_decide_eq_true h, of_decide_eq_true hk1, decide_true, decide_false, hw, Int.toNat_natCast, Int.natCast_nonneg, List.getElem?_map, keyV, keyV_row]
              exact fin _ rfl
            | false =>
              rw [hb] at fin
              simp only [go_sem, Nat.reduceAdd, Nat.reduceLT, Nat.reduceEqDiff, Nat.reduceBEq, Nat.reduceLeDiff, Nat.reduceSub, Int.reduceToNat, reduceCtorEq, ↓reduceIte, f1, f2, w1, h, hk1, hx, hy, of_decide_eq_true h, of_decide_eq_true hk1, decide_true, decide_false, hw, Int.toNat_natCast, Int.natCast_nonneg, List.getElem?_map, keyV, keyV_row]
              exact fin _ (by simp)
          · have f1 : ((0 : Int) < (k : Int)) = False := eq_false (by omega)
            cases hb : (R.take k).any fun x => x == a with
            | true =>
              rw [hb] at fin
              simp only [go_sem, Nat.reduceAdd, Nat.reduceLT, Nat.reduceEqDiff, Nat.reduceBEq, Nat.reduceLeDiff, Nat.reduceSub, Int.reduceToNat, reduceCtorEq, ↓reduceIte, f1, h, hx, of_decide_eq_true h, decide_true, decide_false, hw, Int.toNat_natCast, Int.natCast_nonneg, List.getElem?_map, keyV, keyV_row]
              exact fin _ rfl
            | false =>
              rw [hb] at fin
              simp only [go_sem, Nat.reduceAdd, Nat.reduceLT, Nat.reduceEqDiff, Nat.reduceBEq, Nat.reduceLeDiff, Nat.reduceSub, Int.reduceToNat, reduceCtorEq, ↓reduceIte, f1, h, hx, of_decide_eq_true h, decide_true, decide_false, hw, Int.toNat_natCast, Int.natCast_nonneg, List.getElem?_map, keyV, keyV_row]
              exact fin _ (by simp)
        · have hkl : k = R.length := by have : ¬ k < R.length := by simpa using h
                                        omega
          subst hkl
          simp only [go_sem, Nat.reduceAdd, Nat.reduceLT, Nat.reduceEqDiff, Nat.reduceBEq, Nat.reduceLeDiff, Nat.reduceSub, Int.reduceToNat, reduceCtorEq, ↓reduceIte, h]
          refine callX_of (hLt a) ?_
          simp only [go_sem, Nat.reduceAdd, Nat.reduceLT, Nat.reduceEqDiff, Nat.reduceBEq, Nat.reduceLeDiff, Nat.reduceSub, Int.reduceToNat, reduceCtorEq, ↓reduceIte, hend, List.take_length]
  · have hlf : lightB l = false := by simpa using hlt
    simp only [go_sem, Nat.reduceAdd, Nat.reduceLT, Nat.reduceEqDiff, Nat.reduceBEq, Nat.reduceLeDiff, Nat.reduceSub, Int.reduceToNat, reduceCtorEq, ↓reduceIte, hlf]

end Go.Proofs.Ytmjmfollimaleaa.VL
