/- rivuletlaw14.FiltSays: the walk. -/
import Derived.Test.YtmjmfollimaleaaFiltRef4
set_option linter.unusedVariables false
set_option linter.unusedSimpArgs false
set_option maxHeartbeats 4000000
namespace Go.Proofs.Ytmjmfollimaleaa.VL
open Go.RowKit Go.Proofs Go.Sort

theorem C_FiltSays (l : List Mem) (any : Bool) (fs : List Int) (a g : Int) (hl : l.length < 9223372036854775808) :
    AC Try.prog f_rivuletlaw14_FiltSays [.sl .none 4 (l.map avM), flV any (some fs), aI a, aI g] (.lit (.bool true)) := by
  refine ac_rivuletlaw14_FiltSays ?_ (Nat.le_add_left 4 _)
  simp only [go_sem, Nat.reduceAdd, Nat.reduceLT, Nat.reduceEqDiff, Nat.reduceBEq, Nat.reduceLeDiff, Nat.reduceSub, Int.reduceToNat, reduceCtorEq, ↓reduceIte, c_rivuletlaw14_FiltSays, flV, asV]
  refine callX_of C_first ?_
  simp only [go_sem, Nat.reduceAdd, Nat.reduceLT, Nat.reduceEqDiff, Nat.reduceBEq, Nat.reduceLeDiff, Nat.reduceSub, Int.reduceToNat, reduceCtorEq, ↓reduceIte]
  refine callX_of (C_light l hl) ?_
  cases hlt : lightB l with
  | false => simp only [go_sem, Nat.reduceAdd, Nat.reduceLT, Nat.reduceEqDiff, Nat.reduceBEq, Nat.reduceLeDiff, Nat.reduceSub, Int.reduceToNat, reduceCtorEq, ↓reduceIte]
  | true =>
    have hn := lightB_len hlt
    have hf := few_of hlt
    have hall : (allOf l).length ≤ 255 := by have := few_all hf; omega
    simp only [go_sem, Nat.reduceAdd, Nat.reduceLT, Nat.reduceEqDiff, Nat.reduceBEq, Nat.reduceLeDiff, Nat.reduceSub, Int.reduceToNat, reduceCtorEq, ↓reduceIte]
    refine condX_of (fun h => ?_) (fun h => ?_)
    · simp only [go_sem, Nat.reduceAdd, Nat.reduceLT, Nat.reduceEqDiff, Nat.reduceBEq, Nat.reduceLeDiff, Nat.reduceSub, Int.reduceToNat, reduceCtorEq, ↓reduceIte]
    · have h12 : fs.length ≤ 12 := by have : ¬ (12 : Int) < (fs.length : Int) := by simpa using h
                                      omega
      have hsl := src_len l
      have hSA := C_SameAddrs .none .none 1 1 (srcOf l) (srcOf l) rfl rfl (.inl rfl) (.inl rfl) (by omega)
      simp only [decide_true] at hSA
      have hLe := C_Lets any (some fs) a (show fs.length < _ by omega)
      have hHa := C_Has .none 1 fs a rfl (.inl rfl) (by omega)
      have hne : (lets any (asL (some fs)) a == (has fs a == any)) = false := by
        rw [show asL (some fs) = fs from rfl, lets]
        cases has fs a <;> cases any <;> rfl
      have hbb : (anyOf l != anyOf l) = false := by simp
      simp only [go_sem, Nat.reduceAdd, Nat.reduceLT, Nat.reduceEqDiff, Nat.reduceBEq, Nat.reduceLeDiff, Nat.reduceSub, Int.reduceToNat, reduceCtorEq, ↓reduceIte]
      refine callX_of (C_Of l hall (by omega)) ?_
      simp only [go_sem, Nat.reduceAdd, Nat.reduceLT, Nat.reduceEqDiff, Nat.reduceBEq, Nat.reduceLeDiff, Nat.reduceSub, Int.reduceToNat, reduceCtorEq, ↓reduceIte]
      refine callX_of (C_Filtered l hall (by omega)) ?_
      simp only [go_sem, Nat.reduceAdd, Nat.reduceLT, Nat.reduceEqDiff, Nat.reduceBEq, Nat.reduceLeDiff, Nat.reduceSub, Int.reduceToNat, reduceCtorEq, ↓reduceIte, hbb]
      refine callX_of hSA ?_
      simp only [go_sem, Nat.reduceAdd, Nat.reduceLT, Nat.reduceEqDiff, Nat.reduceBEq, Nat.reduceLeDiff, Nat.reduceSub, Int.reduceToNat, reduceCtorEq, ↓reduceIte]
      refine callX_of hLe ?_
      simp only [go_sem, Nat.reduceAdd, Nat.reduceLT, Nat.reduceEqDiff, Nat.reduceBEq, Nat.reduceLeDiff, Nat.reduceSub, Int.reduceToNat, reduceCtorEq, ↓reduceIte]
      refine callX_of hHa ?_
      simp only [go_sem, Nat.reduceAdd, Nat.reduceLT, Nat.reduceEqDiff, Nat.reduceBEq, Nat.reduceLeDiff, Nat.reduceSub, Int.reduceToNat, reduceCtorEq, ↓reduceIte, hne]
      refine aw_loop (fun m E => ∃ k, k + m = l.length ∧ E = mkE [(0, .sl .none 4 (l.map avM)), (2, aI a), (3, aI g), (5, .lp 5 0), (10, .lp 10 0), (12, .lit (.int .i64 (k : Nat)))]
        [(5, [.lit (.bool any), .sl .none 1 (fs.map aI)]), (10, [.lit (.bool (anyOf l)), .sl .none 1 ((srcOf l).map aI)]), (11, [.lit (.bool (anyOf l)), .sl .none 1 ((srcOf l).map aI)])]) l.length ?_ ?_
      · exact ⟨0, by omega, by simp only [go_sem, Nat.reduceAdd, Nat.reduceLT, Nat.reduceEqDiff, Nat.reduceBEq, Nat.reduceLeDiff, Nat.reduceSub, Int.reduceToNat, reduceCtorEq, ↓reduceIte, Int.ofNat_zero]⟩
      · rintro m _ ⟨k, hk, rfl⟩
        simp only [go_sem, Nat.reduceAdd, Nat.reduceLT, Nat.reduceEqDiff, Nat.reduceBEq, Nat.reduceLeDiff, Nat.reduceSub, Int.reduceToNat, reduceCtorEq, ↓reduceIte]
        refine condX_of (fun h => ?_) (fun h => ?_)
        · have hkl : k < l.length := by simpa using h
          obtain ⟨x, hx⟩ : ∃ x, l[k]? = some x := ⟨l[k], List.getElem?_eq_getElem hkl⟩
          have hw := wrap_succ k (by omega)
          have hxm := List.mem_of_getElem? hx
          obtain ⟨t, e, es, ht, hg, he, htt⟩ := asV_cases x.src
          have hA1 := C_Admits x a (by have := hf x hxm; omega)
          have hA2 := C_Admits8 x a (by have := hf x hxm; omega)
          simp only [avM, es] at hA1 hA2
          have hbb2 : (admits x a != admits x a) = false := by simp
          simp only [go_sem, Nat.reduceAdd, Nat.reduceLT, Nat.reduceEqDiff, Nat.reduceBEq, Nat.reduceLeDiff, Nat.reduceSub, Int.reduceToNat, reduceCtorEq, ↓reduceIte, h, hx, Int.toNat_natCast, Int.natCast_nonneg, List.getElem?_map, avM_row, es, ht]
          refine callX_of hA1 ?_
          simp only [go_sem, Nat.reduceAdd, Nat.reduceLT, Nat.reduceEqDiff, Nat.reduceBEq, Nat.reduceLeDiff, Nat.reduceSub, Int.reduceToNat, reduceCtorEq, ↓reduceIte, h, hx, Int.toNat_natCast, Int.natCast_nonneg, List.getElem?_map, avM_row, es, ht]
          refine callX_of hA2 ?_
          simp only [go_sem, Nat.reduceAdd, Nat.reduceLT, Nat.reduceEqDiff, Nat.reduceBEq, Nat.reduceLeDiff, Nat.reduceSub, Int.reduceToNat, reduceCtorEq, ↓reduceIte, hbb2, hw]
          exact ⟨m - 1, by omega, k + 1, by omega, rfl⟩
        · have hK := C_Keys any (some fs) g (show fs.length ≤ 255 by omega)
          have hFK := C_FilterKeys any fs g (by omega)
          have hSK := C_SameKeys (keysOf any fs g) (by
            rw [keysOf]
            split
            · simp
            · have := rise_len fs
              simp
              omega)
          have hS1 := C_Same any any (some fs) (some fs) (show fs.length < _ by omega)
          have hS2 := C_Same any (anyOf l) (some fs) (some (srcOf l)) (show fs.length < _ by omega)
          have hSB := C_SameAddrs .none .none 1 1 fs (srcOf l) rfl rfl (.inl rfl) (.inl rfl) (by omega)
          simp only [beq_self_eq_true, decide_true, Bool.and_self] at hS1
          rw [show asL (some fs) = fs from rfl] at hK hS2
          rw [show asL (some (srcOf l)) = srcOf l from rfl] at hS2
          simp only [go_sem, Nat.reduceAdd, Nat.reduceLT, Nat.reduceEqDiff, Nat.reduceBEq, Nat.reduceLeDiff, Nat.reduceSub, Int.reduceToNat, reduceCtorEq, ↓reduceIte, h]
          refine callX_of hK ?_
          simp only [go_sem, Nat.reduceAdd, Nat.reduceLT, Nat.reduceEqDiff, Nat.reduceBEq, Nat.reduceLeDiff, Nat.reduceSub, Int.reduceToNat, reduceCtorEq, ↓reduceIte]
          refine callX_of hFK ?_
          simp only [go_sem, Nat.reduceAdd, Nat.reduceLT, Nat.reduceEqDiff, Nat.reduceBEq, Nat.reduceLeDiff, Nat.reduceSub, Int.reduceToNat, reduceCtorEq, ↓reduceIte]
          refine callX_of hSK ?_
          simp only [go_sem, Nat.reduceAdd, Nat.reduceLT, Nat.reduceEqDiff, Nat.reduceBEq, Nat.reduceLeDiff, Nat.reduceSub, Int.reduceToNat, reduceCtorEq, ↓reduceIte]
          refine callX_of hS1 ?_
          simp only [go_sem, Nat.reduceAdd, Nat.reduceLT, Nat.reduceEqDiff, Nat.reduceBEq, Nat.reduceLeDiff, Nat.reduceSub, Int.reduceToNat, reduceCtorEq, ↓reduceIte]
          refine callX_of hS2 ?_
          cases hba : any == anyOf l with
          | true =>
            simp only [go_sem, Nat.reduceAdd, Nat.reduceLT, Nat.reduceEqDiff, Nat.reduceBEq, Nat.reduceLeDiff, Nat.reduceSub, Int.reduceToNat, reduceCtorEq, ↓reduceIte, hba]
            refine callX_of hSB ?_
            simp only [go_sem, Nat.reduceAdd, Nat.reduceLT, Nat.reduceEqDiff, Nat.reduceBEq, Nat.reduceLeDiff, Nat.reduceSub, Int.reduceToNat, reduceCtorEq, ↓reduceIte]
          | false =>
            simp only [go_sem, Nat.reduceAdd, Nat.reduceLT, Nat.reduceEqDiff, Nat.reduceBEq, Nat.reduceLeDiff, Nat.reduceSub, Int.reduceToNat, reduceCtorEq, ↓reduceIte, hba]

end Go.Proofs.Ytmjmfollimaleaa.VL
