/- filt, part 5: light, first: contracts. -/
import Derived.Test.YtmjmfollimaleaaFilt4
set_option linter.unusedVariables false
set_option linter.unusedSimpArgs false
set_option maxHeartbeats 4000000
namespace Go.Proofs.Ytmjmfollimaleaa.VL
open Go.RowKit Go.Proofs Go.Sort

/-- A contract over what may be told otherwise. -/
theorem AC_arg {P : Program} {f : FuncId} {x x' : AV} {r : AV} (h : AC P f [x] r) (hx : ∀ E v, Rep E x' v → Rep E x v) : AC P f [x'] r :=
  ⟨h.res, h.enters, fun R cargs hR hh hg ha => h.calls R cargs hR hh hg (by
    simp only [RepL] at ha ⊢
    obtain ⟨v, ws, rfl, h1, rfl⟩ := ha
    exact ⟨v, _, rfl, hx _ _ h1, rfl⟩)⟩
theorem rep_sl0' {E : RE} {t : Tok} {e e' : Nat} {v : Value} (h : Rep E (.sl t e []) v) : Rep E (.sl .none e' []) v := rep_sl0 h

theorem C_light (l : List Mem) (hn : l.length < 9223372036854775808) : AC Try.prog f_rivuletlaw14_light [.sl .none 4 (l.map avM)] (.lit (.bool (lightB l))) := by
  refine ac_rivuletlaw14_light ?_ (Nat.le_add_left 1 _)
  simp only [go_sem, Nat.reduceAdd, Nat.reduceLT, Nat.reduceEqDiff, Nat.reduceBEq, Nat.reduceLeDiff, Nat.reduceSub, Int.reduceToNat, reduceCtorEq, ↓reduceIte, c_rivuletlaw14_light]
  refine aw_loop (fun m E => ∃ k, k + m = l.length ∧ (∀ (j : Nat) (y : Mem), j < k → l[j]? = some y → y.s.length ≤ 10) ∧ E = mkE [(0, .sl .none 4 (l.map avM)), (3, .lit (.int .i64 (k : Nat)))] []) l.length ?_ ?_
  · exact ⟨0, by omega, fun j y hj => absurd hj (Nat.not_lt_zero j), by simp only [go_sem, Nat.reduceAdd, Nat.reduceLT, Nat.reduceEqDiff, Nat.reduceBEq, Nat.reduceLeDiff, Nat.reduceSub, Int.reduceToNat, reduceCtorEq, ↓reduceIte, Int.ofNat_zero]⟩
  · rintro m _ ⟨k, hk, hall, rfl⟩
    simp only [go_sem, Nat.reduceAdd, Nat.reduceLT, Nat.reduceEqDiff, Nat.reduceBEq, Nat.reduceLeDiff, Nat.reduceSub, Int.reduceToNat, reduceCtorEq, ↓reduceIte]
    refine condX_of (fun h => ?_) (fun h => ?_)
    · have hkl : k < l.length := by simpa using h
      obtain ⟨y, hy⟩ : ∃ y, l[k]? = some y := ⟨l[k], List.getElem?_eq_getElem hkl⟩
      have hw := wrap_succ k (by omega)
      obtain ⟨t, e, es, ht, hg, he, htt⟩ := asV_cases y.src
      simp only [go_sem, Nat.reduceAdd, Nat.reduceLT, Nat.reduceEqDiff, Nat.reduceBEq, Nat.reduceLeDiff, Nat.reduceSub, Int.reduceToNat, reduceCtorEq, ↓reduceIte, h, hy, Int.toNat_natCast, Int.natCast_nonneg, List.getElem?_map, avM_row, es]
      refine condX_of (fun hp => ?_) (fun hp => ?_)
      · have h10 : ¬ y.s.length ≤ 10 := by
          have : (10 : Int) < ((asL y.src).length : Int) := by simpa using hp
          show ¬ (asL y.src).length ≤ 10
          omega
        have e : lightB l = false := by
          rw [lightB, Bool.and_eq_false_iff]
          left
          rw [List.all_eq_false]
          exact ⟨y, List.mem_of_getElem? hy, by simpa using h10⟩
        simp only [go_sem, Nat.reduceAdd, Nat.reduceLT, Nat.reduceEqDiff, Nat.reduceBEq, Nat.reduceLeDiff, Nat.reduceSub, Int.reduceToNat, reduceCtorEq, ↓reduceIte, e]
      · simp only [go_sem, Nat.reduceAdd, Nat.reduceLT, Nat.reduceEqDiff, Nat.reduceBEq, Nat.reduceLeDiff, Nat.reduceSub, Int.reduceToNat, reduceCtorEq, ↓reduceIte, hw]
        refine ⟨m - 1, by omega, k + 1, by omega, fun j z hj hz => ?_, rfl⟩
        by_cases hjk : j = k
        · subst hjk
          rw [hy] at hz
          injection hz with hz
          rw [← hz]
          have : ¬ (10 : Int) < ((asL y.src).length : Int) := by simpa using hp
          show (asL y.src).length ≤ 10
          omega
        · exact hall j z (by omega) hz
    · have hkl : k = l.length := by have : ¬ k < l.length := by simpa using h
                                    omega
      have e : lightB l = decide ((l.length : Int) ≤ 12) := by
        rw [lightB]
        have : l.all (fun m => decide (m.s.length ≤ 10)) = true := by
          rw [List.all_eq_true]
          intro y hy
          obtain ⟨i, hi⟩ := List.getElem?_of_mem hy
          simpa using hall i y (by have := (List.getElem?_eq_some_iff.1 hi).1; omega) hi
        rw [this, Bool.true_and]
        exact decide_eq_decide.2 (by omega)
      simp only [go_sem, Nat.reduceAdd, Nat.reduceLT, Nat.reduceEqDiff, Nat.reduceBEq, Nat.reduceLeDiff, Nat.reduceSub, Int.reduceToNat, reduceCtorEq, ↓reduceIte, h, e]

theorem lightB_len {l : List Mem} (h : lightB l = true) : l.length ≤ 12 := by
  simp only [lightB, Bool.and_eq_true, decide_eq_true_eq] at h
  exact h.2
theorem lightB_all {l : List Mem} (h : lightB l = true) : (allOf l).length ≤ 10 * l.length := by
  simp only [lightB, Bool.and_eq_true, List.all_eq_true, decide_eq_true_eq] at h
  have h1 := h.1
  clear h
  induction l with
  | nil => simp [allOf]
  | cons m l ih =>
    have := ih fun x hx => h1 x (List.mem_cons_of_mem _ hx)
    have h2 := h1 m List.mem_cons_self
    simp only [allOf, List.flatMap_cons, List.length_append, List.length_cons] at this ⊢
    omega

theorem C_OfNil (t : Tok) (e : Nat) : AC Try.prog f_filt_Of [.sl t e []] (flV false (some [])) := by
  have h := C_Of [] (by decide) (by decide)
  rw [show srcOf [] = [] by rw [srcOf, show allOf [] = [] from rfl, rise_nil]; rfl] at h
  exact AC_arg h fun E v hv => rep_sl0 hv

def zMem : Mem := ⟨0, 0, false, none⟩
theorem srcOf_z : srcOf [zMem] = [] := by rw [srcOf, show allOf [zMem] = [] from rfl, rise_nil]; rfl

theorem C_first : AC Try.prog f_rivuletlaw14_first [] (.lit (.bool true)) := by
  refine ac_rivuletlaw14_first ?_ (Nat.le_add_left 0 _)
  simp only [go_sem, Nat.reduceAdd, Nat.reduceLT, Nat.reduceEqDiff, Nat.reduceBEq, Nat.reduceLeDiff, Nat.reduceSub, Int.reduceToNat, reduceCtorEq, ↓reduceIte, c_rivuletlaw14_first]
  refine callX_of (C_OfNil _ _) ?_
  simp only [go_sem, Nat.reduceAdd, Nat.reduceLT, Nat.reduceEqDiff, Nat.reduceBEq, Nat.reduceLeDiff, Nat.reduceSub, Int.reduceToNat, reduceCtorEq, ↓reduceIte, flV, asV]
  refine callX_of (C_Lets false (some []) 5 (by decide)) ?_
  simp only [go_sem, Nat.reduceAdd, Nat.reduceLT, Nat.reduceEqDiff, Nat.reduceBEq, Nat.reduceLeDiff, Nat.reduceSub, Int.reduceToNat, reduceCtorEq, ↓reduceIte, show lets false (asL (some [])) 5 = false from rfl]
  have h := C_Of [zMem] (by decide) (by decide)
  rw [srcOf_z, show anyOf [zMem] = true from rfl] at h
  refine callX_of h ?_
  simp only [go_sem, Nat.reduceAdd, Nat.reduceLT, Nat.reduceEqDiff, Nat.reduceBEq, Nat.reduceLeDiff, Nat.reduceSub, Int.reduceToNat, reduceCtorEq, ↓reduceIte]
  refine callX_of (C_Lets true (some []) 5 (by decide)) ?_
  simp only [go_sem, Nat.reduceAdd, Nat.reduceLT, Nat.reduceEqDiff, Nat.reduceBEq, Nat.reduceLeDiff, Nat.reduceSub, Int.reduceToNat, reduceCtorEq, ↓reduceIte, show lets true (asL (some [])) 5 = true from rfl]

end Go.Proofs.Ytmjmfollimaleaa.VL
