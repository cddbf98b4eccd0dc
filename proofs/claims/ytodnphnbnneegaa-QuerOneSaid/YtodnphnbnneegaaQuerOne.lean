/- rivuletlaw13.QuerOne: the walk. -/
import Derived.Test.YtodnphnbnneegaaQuerLeast
set_option linter.unusedVariables false
set_option linter.unusedSimpArgs false
set_option maxHeartbeats 4000000
namespace Go.Proofs.Ytodnphnbnneegaa.VL
open Go.RowKit Go.Proofs

/-! ### A local array of pairs -/
def cellsT (p : Int × Int) : List AV := [.lit (.int .i64 p.1), .lit (.int .i64 p.2)]
def flatT (l : List (Int × Int)) : List AV := l.flatMap cellsT

theorem flatT_len (l : List (Int × Int)) : (flatT l).length = l.length * 2 := by
  induction l with
  | nil => rfl
  | cons p l ih =>
    simp only [flatT, List.flatMap_cons, List.length_append, List.length_cons] at ih ⊢
    simp [cellsT, ih]
    omega

theorem flatT_drop : ∀ (l : List (Int × Int)) (i : Nat) (p : Int × Int), l[i]? = some p → (flatT l).drop (i * 2) = cellsT p ++ flatT (l.drop (i + 1))
  | [], i, p, h => by simp at h
  | q :: l, 0, p, h => by
    simp at h
    subst h
    simp [flatT]
  | q :: l, i + 1, p, h => by
    have e : (i + 1) * 2 = i * 2 + 1 + 1 := by omega
    rw [e]
    have := flatT_drop l i p (by simpa using h)
    simpa [flatT, cellsT] using this

theorem flatT_set : ∀ (l : List (Int × Int)) (i : Nat) (q : Int × Int), i < l.length → (flatT l).take (i * 2) ++ cellsT q ++ (flatT l).drop (i * 2 + 2) = flatT (l.set i q)
  | [], i, q, h => by simp at h
  | p :: l, 0, q, h => by simp [flatT, cellsT]
  | p :: l, i + 1, q, h => by
    have e : (i + 1) * 2 = i * 2 + 1 + 1 := by omega
    have := flatT_set l i q (by simpa using h)
    rw [e]
    simpa [flatT, cellsT] using this

theorem stripL_flatT (τ : List Nat) (l : List (Int × Int)) : stripL τ (flatT l) = flatT l := by
  induction l with
  | nil => rfl
  | cons p l ih => simp only [flatT, List.flatMap_cons, cellsT, List.cons_append, List.nil_append, stripL, strip] at ih ⊢; rw [ih]

/-! ### What it computes -/
def remQ (n s i : Nat) : Int := (IntKind.i64.wrap ((i : Int) + (s : Int))).tmod (n : Int)
def addrQ (n s i : Nat) : Int := IntKind.u32.wrap (IntKind.i64.wrap (10 + remQ n s i))

def heardQ (n s : Nat) (u : List (Int × Int)) : Nat → List Int
  | 0 => []
  | k + 1 => match u[k]? with
    | some p => if (p.1 == 1) = true then heardQ n s u k ++ [addrQ n s k] else heardQ n s u k
    | none => heardQ n s u k

def stepsQ (n s : Nat) (h : List Int) (u : List (Int × Int)) : Nat → List (Int × Int)
  | 0 => u
  | i + 1 => match (stepsQ n s h u i)[i]? with
    | some p => (stepsQ n s h u i).set i (stepQ p (addrQ n s i) h)
    | none => stepsQ n s h u i

def roundsQ (n s : Nat) : Nat → List (Int × Int)
  | 0 => List.replicate n (0, 0)
  | t + 1 => stepsQ n s (heardQ n s (roundsQ n s t) n) (roundsQ n s t) n

theorem stepsQ_len (n s : Nat) (h : List Int) (u : List (Int × Int)) : ∀ i, (stepsQ n s h u i).length = u.length
  | 0 => rfl
  | i + 1 => by
    simp only [stepsQ]
    split
    · simp [stepsQ_len n s h u i]
    · exact stepsQ_len n s h u i
theorem roundsQ_len (n s : Nat) : ∀ t, (roundsQ n s t).length = n
  | 0 => by simp [roundsQ]
  | t + 1 => by rw [roundsQ, stepsQ_len, roundsQ_len n s t]
theorem heardQ_len (n s : Nat) (u : List (Int × Int)) : ∀ k, (heardQ n s u k).length ≤ k
  | 0 => Nat.le_refl _
  | k + 1 => by
    have := heardQ_len n s u k
    simp only [heardQ]
    split
    · split
      · simp; omega
      · omega
    · omega

def okQ (n s T : Nat) : Bool := (List.range n).all fun i => match (roundsQ n s T)[i]? with
  | some p => (p.1 == 1) == (remQ n s i == 0)
  | none => false
theorem okQ_tab : ((List.range 7).all fun n => (List.range n).all fun s => (List.range 10).all fun T => decide (T < 2) || okQ n s T) = true := by decide +kernel
theorem okQ_all (n s T : Nat) (hn : n ≤ 6) (hs : s < n) (h2 : 2 ≤ T) (h9 : T ≤ 9) : okQ n s T = true := by
  have h := okQ_tab
  simp only [List.all_eq_true, List.mem_range, Bool.or_eq_true, decide_eq_true_eq] at h
  rcases h n (by omega) s hs T (by omega) with h | h
  · omega
  · exact h
theorem okQ_at {n s T i : Nat} {p : Int × Int} (h : okQ n s T = true) (hi : i < n) (hp : (roundsQ n s T)[i]? = some p) : (p.1 == 1) = (remQ n s i == 0) := by
  simp only [okQ, List.all_eq_true, List.mem_range] at h
  have := h i hi
  rw [hp] at this
  simpa using this

def leastQ (s : Nat) : Bool := (((leastAt [IntKind.u32.wrap (IntKind.i64.wrap (10 + (s : Int))), 10, 11] : Nat) : Int) == 1) == decide (0 < (s : Int))
theorem leastQ_all (s : Nat) (hs : s < 6) : leastQ s = true := by
  have h : ((List.range 6).all fun s => leastQ s) = true := by decide +kernel
  simp only [List.all_eq_true, List.mem_range] at h
  exact h s hs

/-- The addresses heard, as the loop holds them. -/
def avH (l : List Int) : AV := match l with
  | [] => .sl .nil 0 []
  | _ :: _ => .sl (.own [55]) 1 (l.map avI)

def lowH (l : List Int) : AV := match l with
  | [] => .sl .nil 0 []
  | _ :: _ => .sl .none 1 (l.map avI)
theorem lowH_eq (C : Nat → Option (List AV)) (l : List Int) : lower C 8 (avH l) = some (lowH l) := by cases l <;> rfl

theorem AC_QuerOne (n0 s0 t0 : Int) : AC Try.prog f_rivuletlaw13_QuerOne [.lit (.int .i64 n0), .lit (.int .i64 s0), .lit (.int .i64 t0)] (.lit (.bool true)) := by
  refine ac_rivuletlaw13_QuerOne ?_ (Nat.le_add_left 3 111)
  simp only [go_sem, Nat.reduceAdd, Nat.reduceLT, Nat.reduceEqDiff, Nat.reduceBEq, Nat.reduceLeDiff, Nat.reduceSub, Int.reduceToNat, reduceCtorEq, ↓reduceIte, c_rivuletlaw13_QuerOne]
  refine callX_of C_first13 ?_
  simp only [go_sem, Nat.reduceAdd, Nat.reduceLT, Nat.reduceEqDiff, Nat.reduceBEq, Nat.reduceLeDiff, Nat.reduceSub, Int.reduceToNat, reduceCtorEq, ↓reduceIte]
  refine callX_of (C_Number n0 6 (by decide) (by decide)) ?_
  have e0 := Int.emod_nonneg n0 (show (6 : Int) ≠ 0 by decide)
  have e1 := Int.emod_lt_of_pos n0 (show (0 : Int) < 6 by decide)
  obtain ⟨n, hn, hn1, hn6⟩ : ∃ n : Nat, IntKind.i64.wrap (n0 % 6 + 1) = (n : Int) ∧ 1 ≤ n ∧ n ≤ 6 := ⟨(n0 % 6 + 1).toNat, by rw [IntKind.wrap_i64]; omega, by omega, by omega⟩
  simp only [go_sem, Nat.reduceAdd, Nat.reduceLT, Nat.reduceEqDiff, Nat.reduceBEq, Nat.reduceLeDiff, Nat.reduceSub, Int.reduceToNat, reduceCtorEq, ↓reduceIte, hn]
  refine callX_of (C_Number t0 8 (by decide) (by decide)) ?_
  have e2 := Int.emod_nonneg t0 (show (8 : Int) ≠ 0 by decide)
  have e3 := Int.emod_lt_of_pos t0 (show (0 : Int) < 8 by decide)
  obtain ⟨T, hT, hT2, hT9⟩ : ∃ T : Nat, IntKind.i64.wrap (t0 % 8 + 2) = (T : Int) ∧ 2 ≤ T ∧ T ≤ 9 := ⟨(t0 % 8 + 2).toNat, by rw [IntKind.wrap_i64]; omega, by omega, by omega⟩
  simp only [go_sem, Nat.reduceAdd, Nat.reduceLT, Nat.reduceEqDiff, Nat.reduceBEq, Nat.reduceLeDiff, Nat.reduceSub, Int.reduceToNat, reduceCtorEq, ↓reduceIte, hT]
  refine callX_of (C_Number s0 n (by omega) (by omega)) ?_
  have e4 := Int.emod_nonneg s0 (show (n : Int) ≠ 0 by omega)
  have e5 := Int.emod_lt_of_pos s0 (show (0 : Int) < n by omega)
  obtain ⟨s, hs, hsn⟩ : ∃ s : Nat, s0 % (n : Int) = (s : Int) ∧ s < n := ⟨(s0 % n).toNat, by omega, by omega⟩
  have g0 : (0 : Int) ≤ n := by omega
  have g1 : (n : Int) ≤ 4294967296 := by omega
  have hnz : ((n : Int) == 0) = false := by simp; omega
  have hz : (List.replicate n [AV.lit (.int .i64 0), AV.lit (.int .i64 0)]).flatten = flatT (roundsQ n s 0) := by
    simp only [roundsQ]
    clear hn hT hs hsn g0 g1 e4 e5 hn1 hn6 hnz
    induction n with
    | zero => rfl
    | succ n ih =>
      simp only [List.replicate_succ, List.flatten_cons, ih]
      rfl
  simp only [go_sem, Nat.reduceAdd, Nat.reduceLT, Nat.reduceEqDiff, Nat.reduceBEq, Nat.reduceLeDiff, Nat.reduceSub, Int.reduceToNat, reduceCtorEq, ↓reduceIte, hs, g0, g1, Int.toNat_natCast, hz]
  refine aw_loop (fun m E => ∃ t : Nat, t + m = T ∧ E = mkE [(0, .lit (.int .i64 n)), (1, .lit (.int .i64 s)), (2, .lit (.int .i64 T)), (7, .lit (.bool true)), (8, .ml 29 0 n n true 2), (9, .lit (.int .i64 (t : Nat)))] [(29, flatT (roundsQ n s t))]) T ?_ ?_
  · exact ⟨0, by omega, by simp only [go_sem, Nat.reduceAdd, Nat.reduceLT, Nat.reduceEqDiff, Nat.reduceBEq, Nat.reduceLeDiff, Nat.reduceSub, Int.reduceToNat, reduceCtorEq, ↓reduceIte, Int.ofNat_zero]⟩
  rintro m _ ⟨t, ht, rfl⟩
  have hlen := roundsQ_len n s t
  simp only [go_sem, Nat.reduceAdd, Nat.reduceLT, Nat.reduceEqDiff, Nat.reduceBEq, Nat.reduceLeDiff, Nat.reduceSub, Int.reduceToNat, reduceCtorEq, ↓reduceIte]
  refine condX_of (fun hc => ?_) (fun hc => ?_)
  · have htT : t < T := by simpa using hc
    simp only [go_sem, Nat.reduceAdd, Nat.reduceLT, Nat.reduceEqDiff, Nat.reduceBEq, Nat.reduceLeDiff, Nat.reduceSub, Int.reduceToNat, reduceCtorEq, ↓reduceIte]
    refine aw_loop (fun m' E => ∃ i : Nat, i + m' = n ∧ E = mkE [(0, .lit (.int .i64 n)), (1, .lit (.int .i64 s)), (2, .lit (.int .i64 T)), (7, .lit (.bool true)), (8, .ml 29 0 n n true 2), (9, .lit (.int .i64 (t : Nat))), (10, avH (heardQ n s (roundsQ n s t) i)), (11, .lit (.int .i64 (i : Nat)))] [(29, flatT (roundsQ n s t))]) n ?_ ?_
    · exact ⟨0, by omega, by simp only [go_sem, Nat.reduceAdd, Nat.reduceLT, Nat.reduceEqDiff, Nat.reduceBEq, Nat.reduceLeDiff, Nat.reduceSub, Int.reduceToNat, reduceCtorEq, ↓reduceIte, Int.ofNat_zero, heardQ, avH]⟩
    rintro m' _ ⟨i, hi, rfl⟩
    simp only [go_sem, Nat.reduceAdd, Nat.reduceLT, Nat.reduceEqDiff, Nat.reduceBEq, Nat.reduceLeDiff, Nat.reduceSub, Int.reduceToNat, reduceCtorEq, ↓reduceIte]
    refine condX_of (fun hc2 => ?_) (fun hc2 => ?_)
    · have hin : i < n := by simpa using hc2
      obtain ⟨p, hp⟩ : ∃ p, (roundsQ n s t)[i]? = some p := ⟨(roundsQ n s t)[i], List.getElem?_eq_getElem (by omega)⟩
      have hd := flatT_drop _ i p hp
      have k0 : (0 : Int) ≤ (i : Int) := by omega
      have k1 : (i : Int) < (n : Int) := by omega
      have hw := wrap_succ i (by omega)
      simp only [go_sem, Nat.reduceAdd, Nat.reduceLT, Nat.reduceEqDiff, Nat.reduceBEq, Nat.reduceLeDiff, Nat.reduceSub, Int.reduceToNat, reduceCtorEq, ↓reduceIte, k0, k1, Int.toNat_natCast, Nat.zero_add, Nat.add_zero, hd, cellsT, List.cons_append]
      refine condX_of (fun hc3 => ?_) (fun hc3 => ?_)
      · have hh := heardQ_len n s (roundsQ n s t) i
        have hnew : heardQ n s (roundsQ n s t) (i + 1) = heardQ n s (roundsQ n s t) i ++ [addrQ n s i] := by simp only [heardQ, hp, hc3, if_true]
        cases hq : heardQ n s (roundsQ n s t) i with
        | nil =>
          rw [hq] at hnew
          have e : avH [] = .sl .nil 0 [] := rfl
          simp only [go_sem, Nat.reduceAdd, Nat.reduceLT, Nat.reduceEqDiff, Nat.reduceBEq, Nat.reduceLeDiff, Nat.reduceSub, Int.reduceToNat, reduceCtorEq, ↓reduceIte, e, hw, hnz]
          rw [avApp_nil _ _ _ _ _ _ _ (by simp) (by decide)]
          simp only [go_sem, Nat.reduceAdd, Nat.reduceLT, Nat.reduceEqDiff, Nat.reduceBEq, Nat.reduceLeDiff, Nat.reduceSub, Int.reduceToNat, reduceCtorEq, ↓reduceIte, e, hw]
          refine ⟨m' - 1, by omega, i + 1, by omega, ?_⟩
          rw [hnew]
          rfl
        | cons a l =>
          rw [hq] at hnew hh
          have e : avH (a :: l) = .sl (.own [55]) 1 ((a :: l).map avI) := rfl
          have hb : ((a :: l).map avI).length + 1 ≤ 4294967296 := by simp at hh ⊢; omega
          simp only [go_sem, Nat.reduceAdd, Nat.reduceLT, Nat.reduceEqDiff, Nat.reduceBEq, Nat.reduceLeDiff, Nat.reduceSub, Int.reduceToNat, reduceCtorEq, ↓reduceIte, e, hw, hnz]
          rw [avApp_own _ _ _ _ _ _ _ hb (by decide) rfl]
          simp only [go_sem, Nat.reduceAdd, Nat.reduceLT, Nat.reduceEqDiff, Nat.reduceBEq, Nat.reduceLeDiff, Nat.reduceSub, Int.reduceToNat, reduceCtorEq, ↓reduceIte, e, hw]
          refine ⟨m' - 1, by omega, i + 1, by omega, ?_⟩
          rw [hnew]
          simp [avH, avI, addrQ, remQ, stripL_flatT]
      · have hnew : heardQ n s (roundsQ n s t) (i + 1) = heardQ n s (roundsQ n s t) i := by simp only [heardQ, hp, hc3, if_false, Bool.false_eq_true]
        simp only [go_sem, Nat.reduceAdd, Nat.reduceLT, Nat.reduceEqDiff, Nat.reduceBEq, Nat.reduceLeDiff, Nat.reduceSub, Int.reduceToNat, reduceCtorEq, ↓reduceIte, hw]
        refine ⟨m' - 1, by omega, i + 1, by omega, ?_⟩
        rw [hnew]
    · have hin : i = n := by have : ¬ i < n := by simpa using hc2
                             omega
      subst hin
      simp only [go_sem, Nat.reduceAdd, Nat.reduceLT, Nat.reduceEqDiff, Nat.reduceBEq, Nat.reduceLeDiff, Nat.reduceSub, Int.reduceToNat, reduceCtorEq, ↓reduceIte]
      refine aw_loop (fun m' E => ∃ j : Nat, j + m' = i ∧ E = mkE [(0, .lit (.int .i64 i)), (1, .lit (.int .i64 s)), (2, .lit (.int .i64 T)), (7, .lit (.bool true)), (8, .ml 29 0 i i true 2), (9, .lit (.int .i64 (t : Nat))), (10, avH (heardQ i s (roundsQ i s t) i)), (12, .lit (.int .i64 (j : Nat)))] [(29, flatT (stepsQ i s (heardQ i s (roundsQ i s t) i) (roundsQ i s t) j))]) i ?_ ?_
      · exact ⟨0, by omega, by simp only [go_sem, Nat.reduceAdd, Nat.reduceLT, Nat.reduceEqDiff, Nat.reduceBEq, Nat.reduceLeDiff, Nat.reduceSub, Int.reduceToNat, reduceCtorEq, ↓reduceIte, Int.ofNat_zero, stepsQ]⟩
      rintro m2 _ ⟨j, hj, rfl⟩
      have hl2 := stepsQ_len i s (heardQ i s (roundsQ i s t) i) (roundsQ i s t) j
      simp only [go_sem, Nat.reduceAdd, Nat.reduceLT, Nat.reduceEqDiff, Nat.reduceBEq, Nat.reduceLeDiff, Nat.reduceSub, Int.reduceToNat, reduceCtorEq, ↓reduceIte]
      refine condX_of (fun hc4 => ?_) (fun hc4 => ?_)
      · have hji : j < i := by simpa using hc4
        obtain ⟨p, hp⟩ : ∃ p, (stepsQ i s (heardQ i s (roundsQ i s t) i) (roundsQ i s t) j)[j]? = some p := ⟨_, List.getElem?_eq_getElem (by omega)⟩
        have hd := flatT_drop _ j p hp
        have hset := flatT_set (stepsQ i s (heardQ i s (roundsQ i s t) i) (roundsQ i s t) j) j (stepQ p (addrQ i s j) (heardQ i s (roundsQ i s t) i)) (by omega)
        have hfl := flatT_len (stepsQ i s (heardQ i s (roundsQ i s t) i) (roundsQ i s t) j)
        have hnew : stepsQ i s (heardQ i s (roundsQ i s t) i) (roundsQ i s t) (j + 1) = (stepsQ i s (heardQ i s (roundsQ i s t) i) (roundsQ i s t) j).set j (stepQ p (addrQ i s j) (heardQ i s (roundsQ i s t) i)) := by simp only [stepsQ, hp]
        have hC : AC Try.prog f_quer_Step [avT p, avI (addrQ i s j), lowH (heardQ i s (roundsQ i s t) i)] (avT (stepQ p (addrQ i s j) (heardQ i s (roundsQ i s t) i))) := by
          have hh := heardQ_len i s (roundsQ i s t) i
          cases hq : heardQ i s (roundsQ i s t) i with
          | nil => exact (C_Step p (addrQ i s j) .none [] (by decide) rfl).nil [_, _] (by simp)
          | cons a l => exact C_Step p (addrQ i s j) .none (a :: l) (by rw [hq] at hh; omega) rfl
        have k0 : (0 : Int) ≤ (j : Int) := by omega
        have k1 : (j : Int) < (i : Int) := by omega
        have hw := wrap_succ j (by omega)
        have hlow := fun C => lowH_eq C (heardQ i s (roundsQ i s t) i)
        simp only [go_sem, Nat.reduceAdd, Nat.reduceLT, Nat.reduceEqDiff, Nat.reduceBEq, Nat.reduceLeDiff, Nat.reduceSub, Int.reduceToNat, reduceCtorEq, ↓reduceIte, k0, k1, Int.toNat_natCast, Nat.zero_add, Nat.add_zero, hd, cellsT, List.cons_append, hnz, hlow]
        refine callX_of hC ?_
        have hle : j * 2 + 2 ≤ (flatT (stepsQ i s (heardQ i s (roundsQ i s t) i) (roundsQ i s t) j)).length := by rw [hfl, hl2, hlen]; omega
        simp only [go_sem, Nat.reduceAdd, Nat.reduceLT, Nat.reduceEqDiff, Nat.reduceBEq, Nat.reduceLeDiff, Nat.reduceSub, Int.reduceToNat, reduceCtorEq, ↓reduceIte, k0, k1, Int.toNat_natCast, Nat.zero_add, Nat.add_zero, avT, cellsT, hw, hle]
        refine ⟨m2 - 1, by omega, j + 1, by omega, ?_⟩
        rw [hnew, ← hset]
        rfl
      · have hji : j = i := by have : ¬ j < i := by simpa using hc4
                               omega
        subst hji
        have hw := wrap_succ t (by omega)
        simp only [go_sem, Nat.reduceAdd, Nat.reduceLT, Nat.reduceEqDiff, Nat.reduceBEq, Nat.reduceLeDiff, Nat.reduceSub, Int.reduceToNat, reduceCtorEq, ↓reduceIte, hw]
        exact ⟨m - 1, by omega, t + 1, by omega, rfl⟩
  · have htT : t = T := by have : ¬ t < T := by simpa using hc
                           omega
    subst htT
    have hok := okQ_all n s t hn6 hsn hT2 hT9
    simp only [go_sem, Nat.reduceAdd, Nat.reduceLT, Nat.reduceEqDiff, Nat.reduceBEq, Nat.reduceLeDiff, Nat.reduceSub, Int.reduceToNat, reduceCtorEq, ↓reduceIte]
    refine aw_loop (fun m' E => ∃ i : Nat, i + m' = n ∧ E = mkE [(0, .lit (.int .i64 n)), (1, .lit (.int .i64 s)), (7, .lit (.bool true)), (8, .ml 29 0 n n true 2), (13, .lit (.int .i64 (i : Nat)))] [(29, flatT (roundsQ n s t))]) n ?_ ?_
    · exact ⟨0, by omega, by simp only [go_sem, Nat.reduceAdd, Nat.reduceLT, Nat.reduceEqDiff, Nat.reduceBEq, Nat.reduceLeDiff, Nat.reduceSub, Int.reduceToNat, reduceCtorEq, ↓reduceIte, Int.ofNat_zero]⟩
    rintro m' _ ⟨i, hi, rfl⟩
    simp only [go_sem, Nat.reduceAdd, Nat.reduceLT, Nat.reduceEqDiff, Nat.reduceBEq, Nat.reduceLeDiff, Nat.reduceSub, Int.reduceToNat, reduceCtorEq, ↓reduceIte]
    refine condX_of (fun hc2 => ?_) (fun hc2 => ?_)
    · have hin : i < n := by simpa using hc2
      obtain ⟨p, hp⟩ : ∃ p, (roundsQ n s t)[i]? = some p := ⟨(roundsQ n s t)[i], List.getElem?_eq_getElem (by omega)⟩
      have hd := flatT_drop _ i p hp
      have k0 : (0 : Int) ≤ (i : Int) := by omega
      have k1 : (i : Int) < (n : Int) := by omega
      have hw := wrap_succ i (by omega)
      have hq := okQ_at hok hin hp
      simp only [remQ] at hq
      simp only [go_sem, Nat.reduceAdd, Nat.reduceLT, Nat.reduceEqDiff, Nat.reduceBEq, Nat.reduceLeDiff, Nat.reduceSub, Int.reduceToNat, reduceCtorEq, ↓reduceIte, k0, k1, Int.toNat_natCast, Nat.zero_add, Nat.add_zero, hd, cellsT, List.cons_append, hnz, hq, hw]
      exact ⟨m' - 1, by omega, i + 1, by omega, rfl⟩
    · have hl := leastQ_all s (by omega)
      simp only [go_sem, Nat.reduceAdd, Nat.reduceLT, Nat.reduceEqDiff, Nat.reduceBEq, Nat.reduceLeDiff, Nat.reduceSub, Int.reduceToNat, reduceCtorEq, ↓reduceIte]
      refine callX_of (C_Least .none [IntKind.u32.wrap (IntKind.i64.wrap (10 + (s : Int))), 10, 11] rfl (by simp)) ?_
      simp only [leastQ, beq_iff_eq] at hl
      have h3 : (0 : Nat) < [IntKind.u32.wrap (IntKind.i64.wrap (10 + (s : Int))), 10, 11].length := by simp
      simp only [go_sem, Nat.reduceAdd, Nat.reduceLT, Nat.reduceEqDiff, Nat.reduceBEq, Nat.reduceLeDiff, Nat.reduceSub, Int.reduceToNat, reduceCtorEq, ↓reduceIte, h3, hl]

end Go.Proofs.Ytodnphnbnneegaa.VL
