/- rivuletlaw14.FiltLets: the walk. -/
import Derived.Test.YtmjmfollimaleaaFiltLaw
set_option linter.unusedVariables false
set_option linter.unusedSimpArgs false
set_option maxHeartbeats 4000000
namespace Go.Proofs.Ytmjmfollimaleaa.VL
open Go.RowKit Go.Proofs Go.Sort

theorem C_FiltLets (l : List Mem) (lk g : Int) (only : Bool) (ms : List Int) (a k : Int) (hl : l.length < 9223372036854775808) (hm : ms.length < 9223372036854775808) :
    AC Try.prog f_rivuletlaw14_FiltLets [.sl .none 4 (l.map avM), avM ⟨lk, g, only, some ms⟩, aI a, .lit (.int .i64 k)] (.lit (.bool true)) := by
  have hL := C_light [⟨lk, g, only, some ms⟩] (by simp)
  have hA := C_Admits ⟨lk, g, only, some ms⟩ a hm
  have hav : avM ⟨lk, g, only, some ms⟩ = .agg [.lit (.int .i64 lk), .lit (.int .u32 g), .lit (.bool only), .sl .none 1 (ms.map aI)] := rfl
  simp only [List.map_cons, List.map_nil, hav] at hL hA
  have hO5 := fun h => C_Of (l ++ [⟨lk, g, only, some ms⟩]) h
  have hT5 := fun h => C_LetsOf (l ++ [⟨lk, g, only, some ms⟩]) a h
  simp only [List.map_append, List.map_cons, List.map_nil, hav] at hO5
  refine ac_rivuletlaw14_FiltLets ?_ (Nat.le_add_left 4 _)
  simp only [hav, go_sem, Nat.reduceAdd, Nat.reduceLT, Nat.reduceEqDiff, Nat.reduceBEq, Nat.reduceLeDiff, Nat.reduceSub, Int.reduceToNat, reduceCtorEq, ↓reduceIte, c_rivuletlaw14_FiltLets]
  generalize hmd : (⟨lk, g, only, some ms⟩ : Mem) = m at hL hA hO5 hT5
  refine callX_of C_first ?_
  simp only [go_sem, Nat.reduceAdd, Nat.reduceLT, Nat.reduceEqDiff, Nat.reduceBEq, Nat.reduceLeDiff, Nat.reduceSub, Int.reduceToNat, reduceCtorEq, ↓reduceIte]
  refine callX_of (C_light l (by omega)) ?_
  cases hlt : lightB l with
  | false => simp only [go_sem, Nat.reduceAdd, Nat.reduceLT, Nat.reduceEqDiff, Nat.reduceBEq, Nat.reduceLeDiff, Nat.reduceSub, Int.reduceToNat, reduceCtorEq, ↓reduceIte]
  | true =>
    simp only [go_sem, Nat.reduceAdd, Nat.reduceLT, Nat.reduceEqDiff, Nat.reduceBEq, Nat.reduceLeDiff, Nat.reduceSub, Int.reduceToNat, reduceCtorEq, ↓reduceIte]
    refine callX_of hL ?_
    cases hlm : lightB [m] with
    | false => simp only [go_sem, Nat.reduceAdd, Nat.reduceLT, Nat.reduceEqDiff, Nat.reduceBEq, Nat.reduceLeDiff, Nat.reduceSub, Int.reduceToNat, reduceCtorEq, ↓reduceIte]
    | true =>
      have hn := lightB_len hlt
      have hf := few_of hlt
      have hfm := few_of hlm
      have hall : (allOf l).length ≤ 255 := by have := few_all hf; omega
      simp only [go_sem, Nat.reduceAdd, Nat.reduceLT, Nat.reduceEqDiff, Nat.reduceBEq, Nat.reduceLeDiff, Nat.reduceSub, Int.reduceToNat, reduceCtorEq, ↓reduceIte]
      refine callX_of (C_Of l hall (by omega)) ?_
      simp only [go_sem, Nat.reduceAdd, Nat.reduceLT, Nat.reduceEqDiff, Nat.reduceBEq, Nat.reduceLeDiff, Nat.reduceSub, Int.reduceToNat, reduceCtorEq, ↓reduceIte]
      have hb : ((l.length + 1 : Nat) : Int) = (l.length : Int) + 1 := by omega
      have hw0 := iwn (l.length + 1) hb.symm (by omega)
      have hN := C_Number k ((l.length + 1 : Nat) : Int) (by omega) (by omega)
      obtain ⟨K, hK⟩ : ∃ K : Nat, k % ((l.length + 1 : Nat) : Int) = (K : Int) := ⟨(k % ((l.length + 1 : Nat) : Int)).toNat, by have := Int.emod_nonneg k (show ((l.length + 1 : Nat) : Int) ≠ 0 by omega); omega⟩
      have hKl : K ≤ l.length := by have := Int.emod_lt_of_pos k (show (0 : Int) < ((l.length + 1 : Nat) : Int) by omega); omega
      rw [hK] at hN
      refine aw_loop (fun m' E => ∃ i, i + m' = l.length ∧ E = mkE [(0, .sl .none 4 (l.map avM)), (2, aI a), (3, .lit (.int .i64 k)), (5, .lp 5 0), (10, .lp 10 0), (11, .lit (.bool ((l.take i).any fun x => admits x a))), (12, .lit (.int .i64 (i : Nat)))]
        [(5, [.lit (.int .i64 lk), .lit (.int .u32 g), .lit (.bool only), .sl .none 1 (ms.map aI)]), (10, [.lit (.bool (anyOf l)), .sl .none 1 ((srcOf l).map aI)])]) l.length ?_ ?_
      · exact ⟨0, by omega, by simp only [go_sem, Nat.reduceAdd, Nat.reduceLT, Nat.reduceEqDiff, Nat.reduceBEq, Nat.reduceLeDiff, Nat.reduceSub, Int.reduceToNat, reduceCtorEq, ↓reduceIte, Int.ofNat_zero, List.any_nil]⟩
      · rintro m' _ ⟨i, hi, rfl⟩
        simp only [go_sem, Nat.reduceAdd, Nat.reduceLT, Nat.reduceEqDiff, Nat.reduceBEq, Nat.reduceLeDiff, Nat.reduceSub, Int.reduceToNat, reduceCtorEq, ↓reduceIte]
        refine condX_of (fun h => ?_) (fun h => ?_)
        · have hil : i < l.length := by simpa using h
          obtain ⟨x, hx⟩ : ∃ x, l[i]? = some x := ⟨l[i], List.getElem?_eq_getElem hil⟩
          have hw := wrap_succ i (by omega)
          have hxm := List.mem_of_getElem? hx
          have hat := any_take (fun x => admits x a) l hx
          obtain ⟨t, e, es, ht, hg, he, htt⟩ := asV_cases x.src
          have hAx := C_Admits x a (by have := hf x hxm; omega)
          simp only [avM, es] at hAx
          cases hb : (l.take i).any fun x => admits x a with
          | true =>
            rw [hb, Bool.true_or] at hat
            simp only [go_sem, Nat.reduceAdd, Nat.reduceLT, Nat.reduceEqDiff, Nat.reduceBEq, Nat.reduceLeDiff, Nat.reduceSub, Int.reduceToNat, reduceCtorEq, ↓reduceIte, h, hw]
            exact ⟨m' - 1, by omega, i + 1, by omega, by rw [hat]⟩
          | false =>
            rw [hb, Bool.false_or] at hat
            simp only [go_sem, Nat.reduceAdd, Nat.reduceLT, Nat.reduceEqDiff, Nat.reduceBEq, Nat.reduceLeDiff, Nat.reduceSub, Int.reduceToNat, reduceCtorEq, ↓reduceIte, h, hx, Int.toNat_natCast, Int.natCast_nonneg, List.getElem?_map, avM_row, es, ht]
            refine callX_of hAx ?_
            simp only [go_sem, Nat.reduceAdd, Nat.reduceLT, Nat.reduceEqDiff, Nat.reduceBEq, Nat.reduceLeDiff, Nat.reduceSub, Int.reduceToNat, reduceCtorEq, ↓reduceIte, hw]
            exact ⟨m' - 1, by omega, i + 1, by omega, by rw [hat]⟩
        · have hil : i = l.length := by have : ¬ i < l.length := by simpa using h
                                        omega
          subst hil
          simp only [go_sem, Nat.reduceAdd, Nat.reduceLT, Nat.reduceEqDiff, Nat.reduceBEq, Nat.reduceLeDiff, Nat.reduceSub, Int.reduceToNat, reduceCtorEq, ↓reduceIte, h, hw0]
          refine callX_of hN ?_
          have q1 : avSl 4 .none 4 (l.map avM) (some (K : Int)) (some (l.length : Int)) = some (.sl .none 4 ((l.drop K).map avM)) := by
            rw [avSl_some 4 .none (l.map avM) _ _ rfl (by simp; omega), Int.toNat_natCast, Int.toNat_natCast, List.take_of_length_le (by simp), List.map_drop]
            rfl
          have q2 : avSl 4 .none 4 (l.map avM) (some ((0 : Nat) : Int)) (some (K : Int)) = some (.sl .none 4 ((l.take K).map avM)) := by
            rw [avSl_some 4 .none (l.map avM) _ _ rfl (by simp; omega), Int.toNat_natCast, Int.toNat_natCast, List.drop_zero, List.map_take]
            rfl
          have hdl : (l.drop K).length ≤ 12 := by simp; omega
          have htl : (l.take K).length ≤ 12 := by simp; omega
          have a1 : ∀ (s : List (Nat × AV)) (c : List (Nat × List AV)), avApp 4 40 [] 54 s c (.sl (.own [50]) 4 []) (.sl .none 4 ((l.drop K).map avM)) = some (mkE (putA (mapV (strip [50]) s) 54 (.sl (.own [54]) 4 ((l.drop K).map avM))) (mapV (stripL [50]) c)) := fun s c =>
            avApp_ownG 4 40 4 54 [] [50] s c [] _ .none (by simp; omega) (by decide) rfl (.inl rfl) rfl
          have a2 : ∀ (s : List (Nat × AV)) (c : List (Nat × List AV)), avApp 4 40 [50] 58 s c (.sl (.own [54]) 4 ((l.drop K).map avM)) (.sl .none 4 ((l.take K).map avM)) = some (mkE (putA (mapV (strip [54]) s) 58 (.sl (.own [58]) 4 ((l.drop K).map avM ++ (l.take K).map avM))) (mapV (stripL [54]) c)) := fun s c =>
            avApp_ownG 4 40 4 58 [50] [54] s c _ _ .none (by simp only [List.length_map]; omega) (by decide) rfl (.inl rfl) rfl
          have a3 : ∀ (s : List (Nat × AV)) (c : List (Nat × List AV)), avApp 4 40 [63] 61 s c (.sl (.own [59]) 4 []) (.sl .none 4 (l.map avM)) = some (mkE (putA (mapV (strip [59]) s) 61 (.sl (.own [61]) 4 (l.map avM))) (mapV (stripL [59]) c)) := fun s c =>
            avApp_ownG 4 40 4 61 [63] [59] s c [] _ .none (by simp; omega) (by decide) rfl (.inl rfl) rfl
          have a4 : ∀ (s : List (Nat × AV)) (c : List (Nat × List AV)) (y : AV), avApp 4 40 [59] 64 s c (.sl (.own [61]) 4 (l.map avM)) (.sl (.own [63]) 4 [y]) = some (mkE (putA (mapV (strip [61]) s) 64 (.sl (.own [64]) 4 (l.map avM ++ [y]))) (mapV (stripL [61]) c)) := fun s c y =>
            avApp_ownG 4 40 4 64 [59] [61] s c _ _ (.own [63]) (by simp; omega) (by decide) rfl (.inl rfl) rfl
          have hfT : Few (l.drop K ++ l.take K) := fun x hx => by
            rcases List.mem_append.1 hx with hx | hx
            · exact hf x (List.mem_of_mem_drop hx)
            · exact hf x (List.mem_of_mem_take hx)
          have hfM : Few (l ++ [m]) := fun x hx => by
            rcases List.mem_append.1 hx with hx | hx
            · exact hf x hx
            · exact hfm x hx
          have haT : (allOf (l.drop K ++ l.take K)).length ≤ 255 := by
            have := few_all hfT
            simp only [List.length_append] at this
            omega
          have haM : (allOf (l ++ [m])).length ≤ 255 := by
            have := few_all hfM
            simp only [List.length_append, List.length_singleton] at this
            omega
          obtain ⟨x1, x2⟩ := src_ext (l := l) (l' := l.drop K ++ l.take K) fun x => by
            rw [List.mem_append]
            constructor
            · intro hx
              rw [← List.take_append_drop K l, List.mem_append] at hx
              exact hx.symm
            · rintro (hx | hx)
              · exact List.mem_of_mem_drop hx
              · exact List.mem_of_mem_take hx
          have hT := C_Of (l.drop K ++ l.take K) haT (by simp; omega)
          have hS := C_Same (anyOf l) (anyOf l) (some (srcOf l)) (some (srcOf l)) (by have := src_len l; show (srcOf l).length < _; omega)
          rw [← x1, ← x2, List.map_append] at hT
          simp only [beq_self_eq_true, decide_true, Bool.and_self] at hS
          have hO5 := hO5 haM (by simp; omega)
          have hT5 := hT5 haM
          rw [List.any_append] at hT5
          simp only [List.any_cons, List.any_nil, Bool.or_false] at hT5
          simp only [go_sem, Nat.reduceAdd, Nat.reduceLT, Nat.reduceEqDiff, Nat.reduceBEq, Nat.reduceLeDiff, Nat.reduceSub, Int.reduceToNat, reduceCtorEq, ↓reduceIte, q1, a1, q2, a2, a3, a4, List.take_length]
          refine callX_of hO5 ?_
          simp only [go_sem, Nat.reduceAdd, Nat.reduceLT, Nat.reduceEqDiff, Nat.reduceBEq, Nat.reduceLeDiff, Nat.reduceSub, Int.reduceToNat, reduceCtorEq, ↓reduceIte]
          refine callX_of (C_LetsOf l a hall) ?_
          simp only [go_sem, Nat.reduceAdd, Nat.reduceLT, Nat.reduceEqDiff, Nat.reduceBEq, Nat.reduceLeDiff, Nat.reduceSub, Int.reduceToNat, reduceCtorEq, ↓reduceIte]
          refine callX_of hT ?_
          simp only [go_sem, Nat.reduceAdd, Nat.reduceLT, Nat.reduceEqDiff, Nat.reduceBEq, Nat.reduceLeDiff, Nat.reduceSub, Int.reduceToNat, reduceCtorEq, ↓reduceIte]
          refine callX_of hS ?_
          simp only [go_sem, Nat.reduceAdd, Nat.reduceLT, Nat.reduceEqDiff, Nat.reduceBEq, Nat.reduceLeDiff, Nat.reduceSub, Int.reduceToNat, reduceCtorEq, ↓reduceIte]
          refine callX_of hT5 ?_
          cases hb2 : l.any fun x => admits x a with
          | true => simp only [go_sem, Nat.reduceAdd, Nat.reduceLT, Nat.reduceEqDiff, Nat.reduceBEq, Nat.reduceLeDiff, Nat.reduceSub, Int.reduceToNat, reduceCtorEq, ↓reduceIte]
          | false =>
            simp only [go_sem, Nat.reduceAdd, Nat.reduceLT, Nat.reduceEqDiff, Nat.reduceBEq, Nat.reduceLeDiff, Nat.reduceSub, Int.reduceToNat, reduceCtorEq, ↓reduceIte]
            refine callX_of hA ?_
            simp only [go_sem, Nat.reduceAdd, Nat.reduceLT, Nat.reduceEqDiff, Nat.reduceBEq, Nat.reduceLeDiff, Nat.reduceSub, Int.reduceToNat, reduceCtorEq, ↓reduceIte]

end Go.Proofs.Ytmjmfollimaleaa.VL
