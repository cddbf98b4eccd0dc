/- rivuletsee, rivuletref's faults: contracts. -/
import Derived.Test.YtodnphnbnneegaaDoorWorld
set_option linter.unusedVariables false
set_option linter.unusedSimpArgs false
set_option maxHeartbeats 4000000
namespace Go.Proofs.YtodnphnbnneegaaDoor.VL
open Go.RowKit Go.Proofs

def avF (code : Int) (pl : Bool) (pos : Int) : AV := .agg [.lit (.int .i64 code), .lit (.bool pl), .lit (.int .i64 pos)]

theorem C_Bare (c : Int) : AC Tryd.prog f_rivuletref_Bare [.lit (.int .i64 c)] (avF c false 0) := by
  refine ac_rivuletref_Bare ?_ (Nat.le_add_left 1 _)
  simp only [go_sem, Nat.reduceAdd, Nat.reduceLT, Nat.reduceEqDiff, Nat.reduceBEq, Nat.reduceLeDiff, Nat.reduceSub, Int.reduceToNat, reduceCtorEq, ↓reduceIte, c_rivuletref_Bare, avF]
theorem C_None : AC Tryd.prog f_rivuletref_None [] (avF 0 false 0) := by
  refine ac_rivuletref_None ?_ (Nat.zero_le _)
  simp only [go_sem, Nat.reduceAdd, Nat.reduceLT, Nat.reduceEqDiff, Nat.reduceBEq, Nat.reduceLeDiff, Nat.reduceSub, Int.reduceToNat, reduceCtorEq, ↓reduceIte, c_rivuletref_None, avF]
theorem C_SameFault (c d : Int) : AC Tryd.prog f_rivuletref_SameFault [avF c false 0, avF d false 0] (.lit (.bool (c == d))) := by
  refine ac_rivuletref_SameFault ?_ (Nat.le_add_left 2 _)
  simp only [go_sem, Nat.reduceAdd, Nat.reduceLT, Nat.reduceEqDiff, Nat.reduceBEq, Nat.reduceLeDiff, Nat.reduceSub, Int.reduceToNat, reduceCtorEq, ↓reduceIte, c_rivuletref_SameFault, avF]
  cases c == d
  · simp only [go_sem, Nat.reduceAdd, Nat.reduceLT, Nat.reduceEqDiff, Nat.reduceBEq, Nat.reduceLeDiff, Nat.reduceSub, Int.reduceToNat, reduceCtorEq, ↓reduceIte]
  · simp only [go_sem, Nat.reduceAdd, Nat.reduceLT, Nat.reduceEqDiff, Nat.reduceBEq, Nat.reduceLeDiff, Nat.reduceSub, Int.reduceToNat, reduceCtorEq, ↓reduceIte]

/-- api's errors, in order. -/
def sentL : List Nat := [8, 9, 3, 0, 10, 11, 2, 4, 1, 12, 13, 14, 15, 16]

theorem C_sentinels : ∃ d, AC Tryd.prog f_rivuletsee_sentinels [] (.sl (.own [d]) 1 (sentL.map AV.gl)) := by
  refine ⟨15, ac_rivuletsee_sentinels ?_ (Nat.zero_le _)⟩
  simp only [go_sem, Nat.reduceAdd, Nat.reduceLT, Nat.reduceEqDiff, Nat.reduceBEq, Nat.reduceLeDiff, Nat.reduceSub, Int.reduceToNat, reduceCtorEq, ↓reduceIte, c_rivuletsee_sentinels, GS, List.mem_cons, List.mem_nil_iff, or_true, true_or, or_false, false_or, sentL, List.map_cons, List.map_nil]

theorem C_Alike (i j : Nat) : AC Tryd.prog f_rivuletsee_Alike [.gl i, .gl j] (.lit (.bool (i == j))) := by
  refine ac_rivuletsee_Alike ?_ (Nat.le_add_left 2 _)
  simp only [go_sem, Nat.reduceAdd, Nat.reduceLT, Nat.reduceEqDiff, Nat.reduceBEq, Nat.reduceLeDiff, Nat.reduceSub, Int.reduceToNat, reduceCtorEq, ↓reduceIte, c_rivuletsee_Alike]

def codeI (i : Nat) : Int := 101 + (sentL.idxOf i : Nat)

theorem C_sentinel (i : Nat) (hi : i ∈ sentL) : AC Tryd.prog f_rivuletsee_sentinel [.gl i] (.lit (.int .i64 (codeI i))) := by
  refine ac_rivuletsee_sentinel ?_ (Nat.le_add_left 1 _)
  obtain ⟨d, hs⟩ := C_sentinels
  simp only [go_sem, Nat.reduceAdd, Nat.reduceLT, Nat.reduceEqDiff, Nat.reduceBEq, Nat.reduceLeDiff, Nat.reduceSub, Int.reduceToNat, reduceCtorEq, ↓reduceIte, c_rivuletsee_sentinel]
  refine callX_of hs ?_
  simp only [go_sem, Nat.reduceAdd, Nat.reduceLT, Nat.reduceEqDiff, Nat.reduceBEq, Nat.reduceLeDiff, Nat.reduceSub, Int.reduceToNat, reduceCtorEq, ↓reduceIte]
  have hlen : sentL.length = 14 := rfl
  have hidx : sentL.idxOf i < 14 := hlen ▸ List.idxOf_lt_length_of_mem hi
  refine aw_loop (fun m E => ∃ k : Nat, k + m = 14 ∧ k ≤ sentL.idxOf i ∧ E = mkE [(0, .gl i), (3, .sl (.own [5, d]) 1 (sentL.map AV.gl)), (4, .lit (.int .i64 (k : Nat)))] []) 14 ?_ ?_
  · exact ⟨0, by omega, by omega, by simp only [go_sem, Nat.reduceAdd, Nat.reduceLT, Nat.reduceEqDiff, Nat.reduceBEq, Nat.reduceLeDiff, Nat.reduceSub, Int.reduceToNat, reduceCtorEq, ↓reduceIte]; rfl⟩
  · rintro m _ ⟨k, hk, hki, rfl⟩
    have hk14 : k < 14 := by omega
    have e1 : ((k : Int) < (sentL.length : Int)) = True := eq_true (by rw [hlen]; omega)
    have e2 : (0 ≤ (k : Int)) = True := eq_true (by omega)
    have hg : (sentL.map AV.gl)[k]? = some (.gl sentL[k]) := by rw [List.getElem?_map, List.getElem?_eq_getElem (by omega)]; rfl
    have w1 := wrap_succ k (by omega)
    have w2 : IntKind.i64.wrap (101 + (k : Int)) = 101 + (k : Int) := by rw [IntKind.wrap_i64]; omega
    simp only [go_sem, Nat.reduceAdd, Nat.reduceLT, Nat.reduceEqDiff, Nat.reduceBEq, Nat.reduceLeDiff, Nat.reduceSub, Int.reduceToNat, reduceCtorEq, ↓reduceIte, e1, e2, hg, Int.toNat_natCast, decide_true]
    refine callX_of (C_Alike i sentL[k]) ?_
    by_cases h : i = sentL[k]
    · have e3 : (i == sentL[k]) = true := by simpa using h
      have e4 : sentL.idxOf i = k := by
        rw [h]
        exact List.Nodup.idxOf_getElem (by decide) k (by omega)
      simp only [go_sem, Nat.reduceAdd, Nat.reduceLT, Nat.reduceEqDiff, Nat.reduceBEq, Nat.reduceLeDiff, Nat.reduceSub, Int.reduceToNat, reduceCtorEq, ↓reduceIte, e3, w2, codeI, e4]
    · have e3 : (i == sentL[k]) = false := by simpa using h
      simp only [go_sem, Nat.reduceAdd, Nat.reduceLT, Nat.reduceEqDiff, Nat.reduceBEq, Nat.reduceLeDiff, Nat.reduceSub, Int.reduceToNat, reduceCtorEq, ↓reduceIte, e3, w1]
      refine ⟨m - 1, by omega, k + 1, by omega, ?_, rfl⟩
      have hne : sentL.idxOf i ≠ k := fun e => h (by
        have := List.getElem_idxOf (by rw [hlen]; exact hidx : sentL.idxOf i < sentL.length)
        simp only [e] at this
        exact this.symm)
      omega

def errO : Option Nat → AV
  | none => .lit .nilIface
  | some i => .gl i
def codeO : Option Nat → Int
  | none => 0
  | some i => codeI i

theorem C_Fault (e : Option Nat) (he : ∀ i, e = some i → i ∈ sentL) : AC Tryd.prog f_rivuletsee_Fault [errO e] (avF (codeO e) false 0) := by
  refine ac_rivuletsee_Fault ?_ (Nat.le_add_left 1 _)
  cases e with
  | none =>
    simp only [go_sem, Nat.reduceAdd, Nat.reduceLT, Nat.reduceEqDiff, Nat.reduceBEq, Nat.reduceLeDiff, Nat.reduceSub, Int.reduceToNat, reduceCtorEq, ↓reduceIte, c_rivuletsee_Fault, errO, codeO]
    refine callX_of C_None ?_
    simp only [go_sem, Nat.reduceAdd, Nat.reduceLT, Nat.reduceEqDiff, Nat.reduceBEq, Nat.reduceLeDiff, Nat.reduceSub, Int.reduceToNat, reduceCtorEq, ↓reduceIte, avF]
  | some i =>
    simp only [go_sem, Nat.reduceAdd, Nat.reduceLT, Nat.reduceEqDiff, Nat.reduceBEq, Nat.reduceLeDiff, Nat.reduceSub, Int.reduceToNat, reduceCtorEq, ↓reduceIte, c_rivuletsee_Fault, errO, codeO]
    refine callX_of (C_sentinel i (he i rfl)) ?_
    simp only [go_sem, Nat.reduceAdd, Nat.reduceLT, Nat.reduceEqDiff, Nat.reduceBEq, Nat.reduceLeDiff, Nat.reduceSub, Int.reduceToNat, reduceCtorEq, ↓reduceIte]
    refine callX_of (C_Bare _) ?_
    simp only [go_sem, Nat.reduceAdd, Nat.reduceLT, Nat.reduceEqDiff, Nat.reduceBEq, Nat.reduceLeDiff, Nat.reduceSub, Int.reduceToNat, reduceCtorEq, ↓reduceIte, avF]

theorem C_Same (e : Option Nat) (he : ∀ i, e = some i → i ∈ sentL) (c : Int) : AC Tryd.prog f_rivuletsee_Same [errO e, avF c false 0] (.lit (.bool (codeO e == c))) := by
  refine ac_rivuletsee_Same ?_ (Nat.le_add_left 2 _)
  have hF := C_Fault e he
  generalize codeO e = k at hF ⊢
  cases e <;> simp only [errO] at hF ⊢ <;> simp only [go_sem, Nat.reduceAdd, Nat.reduceLT, Nat.reduceEqDiff, Nat.reduceBEq, Nat.reduceLeDiff, Nat.reduceSub, Int.reduceToNat, reduceCtorEq, ↓reduceIte, c_rivuletsee_Same, avF] <;> (
  refine callX_of hF ?_
  simp only [go_sem, Nat.reduceAdd, Nat.reduceLT, Nat.reduceEqDiff, Nat.reduceBEq, Nat.reduceLeDiff, Nat.reduceSub, Int.reduceToNat, reduceCtorEq, ↓reduceIte, avF]
  refine callX_of (C_SameFault _ _) ?_
  simp only [go_sem, Nat.reduceAdd, Nat.reduceLT, Nat.reduceEqDiff, Nat.reduceBEq, Nat.reduceLeDiff, Nat.reduceSub, Int.reduceToNat, reduceCtorEq, ↓reduceIte])

theorem C_Is (e : Option Nat) (he : ∀ i, e = some i → i ∈ sentL) (c : Int) : AC Tryd.prog f_rivuletsee_Is [errO e, .lit (.int .i64 c)] (.lit (.bool (codeO e == c))) := by
  refine ac_rivuletsee_Is ?_ (Nat.le_add_left 2 _)
  have hS := C_Same e he c
  generalize codeO e = k at hS ⊢
  cases e <;> simp only [errO] at hS ⊢ <;> simp only [go_sem, Nat.reduceAdd, Nat.reduceLT, Nat.reduceEqDiff, Nat.reduceBEq, Nat.reduceLeDiff, Nat.reduceSub, Int.reduceToNat, reduceCtorEq, ↓reduceIte, c_rivuletsee_Is] <;> (
  refine callX_of (C_Bare c) ?_
  simp only [go_sem, Nat.reduceAdd, Nat.reduceLT, Nat.reduceEqDiff, Nat.reduceBEq, Nat.reduceLeDiff, Nat.reduceSub, Int.reduceToNat, reduceCtorEq, ↓reduceIte, avF]
  refine callX_of hS ?_
  simp only [go_sem, Nat.reduceAdd, Nat.reduceLT, Nat.reduceEqDiff, Nat.reduceBEq, Nat.reduceLeDiff, Nat.reduceSub, Int.reduceToNat, reduceCtorEq, ↓reduceIte])

end Go.Proofs.YtodnphnbnneegaaDoor.VL
