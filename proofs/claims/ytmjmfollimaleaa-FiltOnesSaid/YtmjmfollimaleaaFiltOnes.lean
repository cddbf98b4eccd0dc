/- rivuletlaw14.FiltOnes: the walk. -/
import Derived.Test.YtmjmfollimaleaaFiltLaw
set_option linter.unusedVariables false
set_option linter.unusedSimpArgs false
set_option maxHeartbeats 4000000
namespace Go.Proofs.Ytmjmfollimaleaa.VL
open Go.RowKit Go.Proofs Go.Sort

def mM (only : Bool) (a : Int) : Mem := ⟨0, 0, only, some [a]⟩
theorem mM_s (only : Bool) (a : Int) : (mM only a).s = [a] := rfl
theorem has1 (a b : Int) : has [a] b = (b == a) := by simp [has]

theorem avM_some (lk g : Int) (only : Bool) (l : List Int) : avM ⟨lk, g, only, some l⟩ = .agg [.lit (.int .i64 lk), .lit (.int .u32 g), .lit (.bool only), .sl .none 1 (l.map aI)] := rfl
theorem avM_z : avM zMem = .agg [.lit (.int .i64 0), .lit (.int .u32 0), .lit (.bool false), .sl .nil 0 []] := rfl
theorem avM_mM (only : Bool) (a : Int) : avM (mM only a) = .agg [.lit (.int .i64 0), .lit (.int .u32 0), .lit (.bool only), .sl .none 1 [aI a]] := rfl

theorem C_FiltOnes (lk g : Int) (only : Bool) (l : List Int) (a b : Int) (hm : l.length < 9223372036854775808) : AC Try.prog f_rivuletlaw14_FiltOnes [avM ⟨lk, g, only, some l⟩, aI a, aI b] (.lit (.bool true)) := by
  have hL := C_light [⟨lk, g, only, some l⟩] (by simp)
  have hA := C_Admits ⟨lk, g, only, some l⟩ a hm
  have hO1 := fun h => C_Of [⟨lk, g, only, some l⟩, zMem] h (by simp)
  have hO2 := fun h => C_Of [mM false a] h (by simp)
  have hO3 := fun h => C_Of [mM false a, mM true a] h (by simp)
  have hO4 := fun h => C_Of [⟨lk, g, only, some l⟩] h (by simp)
  simp only [List.map_cons, List.map_nil, avM_z, avM_mM, avM_some] at hL hO1 hO2 hO3 hO4 hA
  refine ac_rivuletlaw14_FiltOnes ?_ (Nat.le_add_left 3 _)
  simp only [avM_some, go_sem, Nat.reduceAdd, Nat.reduceLT, Nat.reduceEqDiff, Nat.reduceBEq, Nat.reduceLeDiff, Nat.reduceSub, Int.reduceToNat, reduceCtorEq, ↓reduceIte, c_rivuletlaw14_FiltOnes]
  have hmo : only = (⟨lk, g, only, some l⟩ : Mem).only := rfl
  generalize hmd : (⟨lk, g, only, some l⟩ : Mem) = m at hL hO1 hO4 hA hmo
  have e1 : anyOf [m, zMem] = true := by simp [anyOf, zMem]
  have e2 : srcOf [m, zMem] = [] := by
    rw [srcOf, e1]
    refine List.filter_eq_nil_iff.2 fun x _ => ?_
    simp [admits, zMem, Mem.s, asL, has]
  have c1 := fun h => C_LetsOf [mM false a] b h
  have c2 := fun h => C_LetsOf [mM false a, mM true a] a h
  have c3 := fun h => C_LetsOf [mM false a, mM true a] b h
  have c4 := fun h => C_LetsOf [m] a h
  have c5 := C_Lets true (some []) a (by decide)
  simp only [List.any_cons, List.any_nil, Bool.or_false] at c1 c2 c3 c4
  have k1 : admits (mM false a) b = !(b == a) := by rw [admits, mM_s, has1]; cases (b == a) <;> rfl
  have k2 : ∀ x, (admits (mM false a) x || admits (mM true a) x) = true := fun x => by
    rw [admits, admits, mM_s, mM_s, has1]
    cases (x == a) <;> rfl
  simp only [k1] at c1
  simp only [k2] at c2 c3
  have n1 : (allOf [mM false a]).length ≤ 255 := by simp [allOf, mM_s]
  have n2 : (allOf [mM false a, mM true a]).length ≤ 255 := by simp [allOf, mM_s]
  have e4 : anyOf [m] = !only := by rw [hmo]; simp [anyOf]
  simp only [e1, e2, List.map_nil] at hO1
  refine callX_of C_first ?_
  simp only [go_sem, Nat.reduceAdd, Nat.reduceLT, Nat.reduceEqDiff, Nat.reduceBEq, Nat.reduceLeDiff, Nat.reduceSub, Int.reduceToNat, reduceCtorEq, ↓reduceIte]
  refine callX_of hL ?_
  by_cases hlt : lightB [m] = true
  · have hle : m.s.length ≤ 10 := by simpa [lightB] using hlt
    have hn1 : (allOf [m, zMem]).length ≤ 255 := by
      show (m.s ++ (([] : List Int) ++ [])).length ≤ 255
      simp; omega
    have hn4 : (allOf [m]).length ≤ 255 := by
      show (m.s ++ ([] : List Int)).length ≤ 255
      simp; omega
    simp only [go_sem, Nat.reduceAdd, Nat.reduceLT, Nat.reduceEqDiff, Nat.reduceBEq, Nat.reduceLeDiff, Nat.reduceSub, Int.reduceToNat, reduceCtorEq, ↓reduceIte, hlt]
    refine callX_of (hO1 hn1) ?_
    simp only [go_sem, Nat.reduceAdd, Nat.reduceLT, Nat.reduceEqDiff, Nat.reduceBEq, Nat.reduceLeDiff, Nat.reduceSub, Int.reduceToNat, reduceCtorEq, ↓reduceIte]
    refine callX_of (hO2 n1) ?_
    simp only [go_sem, Nat.reduceAdd, Nat.reduceLT, Nat.reduceEqDiff, Nat.reduceBEq, Nat.reduceLeDiff, Nat.reduceSub, Int.reduceToNat, reduceCtorEq, ↓reduceIte]
    refine callX_of (hO3 n2) ?_
    simp only [go_sem, Nat.reduceAdd, Nat.reduceLT, Nat.reduceEqDiff, Nat.reduceBEq, Nat.reduceLeDiff, Nat.reduceSub, Int.reduceToNat, reduceCtorEq, ↓reduceIte]
    refine callX_of (hO4 hn4) ?_
    simp only [go_sem, Nat.reduceAdd, Nat.reduceLT, Nat.reduceEqDiff, Nat.reduceBEq, Nat.reduceLeDiff, Nat.reduceSub, Int.reduceToNat, reduceCtorEq, ↓reduceIte]
    refine callX_of (c4 hn4) ?_
    simp only [go_sem, Nat.reduceAdd, Nat.reduceLT, Nat.reduceEqDiff, Nat.reduceBEq, Nat.reduceLeDiff, Nat.reduceSub, Int.reduceToNat, reduceCtorEq, ↓reduceIte]
    refine callX_of hA ?_
    simp only [go_sem, Nat.reduceAdd, Nat.reduceLT, Nat.reduceEqDiff, Nat.reduceBEq, Nat.reduceLeDiff, Nat.reduceSub, Int.reduceToNat, reduceCtorEq, ↓reduceIte, e4]
    refine callX_of c5 ?_
    simp only [go_sem, Nat.reduceAdd, Nat.reduceLT, Nat.reduceEqDiff, Nat.reduceBEq, Nat.reduceLeDiff, Nat.reduceSub, Int.reduceToNat, reduceCtorEq, ↓reduceIte, show lets true (asL (some [])) a = true from rfl, show (((0 : Nat) : Int) == 0) = true from rfl]
    refine callX_of (c1 n1) ?_
    have hne : (a != b) = !(b == a) := by
      rw [bne]
      congr 1
      apply Bool.eq_iff_iff.2
      rw [beq_iff_eq, beq_iff_eq]
      exact ⟨fun h => h.symm, fun h => h.symm⟩
    simp only [go_sem, Nat.reduceAdd, Nat.reduceLT, Nat.reduceEqDiff, Nat.reduceBEq, Nat.reduceLeDiff, Nat.reduceSub, Int.reduceToNat, reduceCtorEq, ↓reduceIte, hne]
    refine callX_of (c2 n2) ?_
    simp only [go_sem, Nat.reduceAdd, Nat.reduceLT, Nat.reduceEqDiff, Nat.reduceBEq, Nat.reduceLeDiff, Nat.reduceSub, Int.reduceToNat, reduceCtorEq, ↓reduceIte]
    refine callX_of (c3 n2) ?_
    simp only [go_sem, Nat.reduceAdd, Nat.reduceLT, Nat.reduceEqDiff, Nat.reduceBEq, Nat.reduceLeDiff, Nat.reduceSub, Int.reduceToNat, reduceCtorEq, ↓reduceIte]
  · have hlf : lightB [m] = false := by simpa using hlt
    simp only [go_sem, Nat.reduceAdd, Nat.reduceLT, Nat.reduceEqDiff, Nat.reduceBEq, Nat.reduceLeDiff, Nat.reduceSub, Int.reduceToNat, reduceCtorEq, ↓reduceIte, hlf]

end Go.Proofs.Ytmjmfollimaleaa.VL
