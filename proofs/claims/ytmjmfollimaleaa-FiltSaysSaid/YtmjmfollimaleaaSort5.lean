/- slices.Sort over addresses, part 5: partition, partitionEqual: contracts. -/
import Derived.Test.YtmjmfollimaleaaSort4
set_option linter.unusedVariables false
set_option linter.unusedSimpArgs false
set_option maxHeartbeats 4000000
namespace Go.Proofs.Ytmjmfollimaleaa.VL
open Go.RowKit Go.Proofs Go.Sort

theorem awOpsD_mono {P : Program} : ∀ {ops : List AOper} {E : Env} {K K' : Env → Prop}, (∀ E, K E → K' E) → awOpsD P ops E K → awOpsD P ops E K'
  | [], E, K, K', hk, h => hk _ h
  | o :: os, E, K, K', hk, h => awD_mono (fun E' h' => awOpsD_mono hk h') h
theorem awG_mono {P : Program} {o : AOper} {E : Env} {K K' : Env → Prop} (hk : ∀ E, K E → K' E) (h2 : awG P o E K) : awG P o E K' := by
  have op : ∀ E, awOp P o E K → awOp P o E K' := by
    intro E h
    unfold awOp at h ⊢
    split at h
    · obtain ⟨al, r, h1, h2, h3⟩ := h; exact ⟨al, r, h1, h2, hk _ h3⟩
    · obtain ⟨f, a, b, h0, al, r, h1, h2, h3⟩ := h; exact ⟨f, a, b, h0, al, r, h1, h2, hk _ h3⟩
    · exact h.imp (fun ⟨al, r, h1, h2, h3⟩ => ⟨al, r, h1, h2, hk _ h3⟩) fun ⟨m, al, c0, r, c1, h1, h2, h3, h4, h5⟩ => ⟨m, al, c0, r, c1, h1, h2, h3, h4, hk _ h5⟩
    · obtain ⟨f, a, b, h0, h⟩ := h
      exact ⟨f, a, b, h0, h.imp (fun ⟨al, r, h1, h2, h3⟩ => ⟨al, r, h1, h2, hk _ h3⟩) fun ⟨m, al, c0, r, c1, h1, h2, h3, h4, h5⟩ => ⟨m, al, c0, r, c1, h1, h2, h3, h4, hk _ h5⟩⟩
    · obtain ⟨d, h1, h2⟩ := h; exact ⟨d, h1, h2.imp (hk _) (hk _)⟩
    · obtain ⟨E', h1, h2⟩ := h; exact ⟨E', h1, hk _ h2⟩
  unfold awG at h2 ⊢
  split at h2
  · exact op _ h2
  · obtain ⟨t, ht, h3, h4⟩ := h2
    exact ⟨t, ht, fun e => op _ (h3 e), fun e => hk _ (h4 e)⟩
theorem awOps_mono {P : Program} : ∀ {ops : List AOper} {E : Env} {K K' : Env → Prop}, (∀ E, K E → K' E) → awOps P ops E K → awOps P ops E K'
  | [], E, K, K', hk, h => hk _ h
  | o :: os, E, K, K', hk, h => by
    rw [awOps_cons] at h ⊢
    exact awG_mono (fun E' h' => awOps_mono hk h') h

/-- What stands behind may be weakened. -/
theorem aw_mono {P : Program} (c : ACode) : ∀ {E : Env} {Q Q' : AExit → Env → Prop}, (∀ ex E, Q ex E → Q' ex E) → aw P c E Q → aw P c E Q' := by
  induction c with
  | skip => exact fun hk h => hk _ _ h
  | ret => exact fun hk h => hk _ _ h
  | bad => exact fun hk h => h
  | region d ops kl =>
    intro E Q Q' hk h
    cases d with
    | true => exact awOpsD_mono (fun E' h' => hk _ _ h') h
    | false => exact awOps_mono (fun E' h' => hk _ _ h') h
  | seq a b iha ihb =>
    intro E Q Q' hk h
    refine iha (Q := thenQ (fun E' => aw P b E' Q) Q) (fun ex E' h' => ?_) h
    cases ex with
    | normal => exact ihb hk h'
    | exit i => exact hk (.exit i) _ h'
    | ret => exact hk .ret _ h'
  | cond c a b iha ihb =>
    rintro E Q Q' hk ⟨t, h1, h2, h3⟩
    exact ⟨t, h1, fun e => iha hk (h2 e), fun e => ihb hk (h3 e)⟩
  | block id a kl iha =>
    intro E Q Q' hk h
    refine iha (Q := blockQ id kl Q) (fun ex E' h' => ?_) h
    cases ex with
    | normal => exact hk _ _ h'
    | ret => exact hk _ _ h'
    | exit i =>
      show if i = id then _ else _
      have h2 : if i = id then Q .normal (E'.dropS kl) else Q (.exit i) E' := h'
      split at h2
      · rw [if_pos ‹_›]; exact hk _ _ h2
      · rw [if_neg ‹_›]; exact hk _ _ h2
  | loop a kl dl iha =>
    rintro E Q Q' hk ⟨I, n, h0, h⟩
    refine ⟨I, n, h0, fun m E' hm => iha (fun ex E' h' => ?_) (h m E' hm)⟩
    cases ex with
    | normal => exact h'
    | exit i => exact hk (.exit i) _ h'
    | ret => exact hk .ret _ h'
  | exit i => exact fun hk h => hk _ _ h
  | shift a iha =>
    rintro E Q Q' hk ⟨S, h1, h2⟩
    exact ⟨S, h1, fun E' h => iha hk (h2 E' h)⟩

/-- A loop that ends at one place. -/
theorem aw_loopE {P : Program} {a : ACode} {kl dl : List Nat} {E : Env} {Q : AExit → Env → Prop} (I : Nat → Env → Prop) (n : Nat) (i : Nat) (F : Env) (h0 : I n ((E.dropS kl).freshL dl))
    (h : ∀ m E', I m E' → aw P a E' (thenQ (fun E'' => ∃ k, k < m ∧ I k ((E''.dropS kl).freshL dl)) (fun ex E'' => ex = .exit i ∧ E'' = F))) (hF : Q (.exit i) F) : aw P (.loop a kl dl) E Q :=
  aw_mono _ (Q := fun ex E'' => ex = .exit i ∧ E'' = F) (fun ex E'' h => by obtain ⟨rfl, rfl⟩ := h; exact hF) (aw_loop I n h0 h)

theorem scanUp_t {p : Int → Bool} {d : Array Int} {j i : Nat} (h : i ≤ j) (hp : p d[i]! = true) : scanUp p d j i = scanUp p d j (i + 1) := by
  rw [scanUp, if_pos (by simp [h, hp])]
theorem scanUp_f {p : Int → Bool} {d : Array Int} {j i : Nat} (h : i ≤ j → p d[i]! = false) : scanUp p d j i = i := by
  rw [scanUp, if_neg]
  simp only [Bool.and_eq_true, decide_eq_true_eq, not_and, Bool.not_eq_true]
  exact h
theorem scanDown_t {p : Int → Bool} {d : Array Int} {j i : Nat} (h0 : 1 ≤ j) (h : i ≤ j) (hp : p d[j]! = true) : scanDown p d i j = scanDown p d i (j - 1) := by
  obtain ⟨k, rfl⟩ : ∃ k, j = k + 1 := ⟨j - 1, by omega⟩
  rw [scanDown, if_pos (by simp [h, hp])]
  rfl
theorem scanDown_f {p : Int → Bool} {d : Array Int} {j i : Nat} (h : i ≤ j → p d[j]! = false) : scanDown p d i j = j := by
  cases j with
  | zero => rfl
  | succ k =>
    rw [scanDown, if_neg]
    simp only [Bool.and_eq_true, decide_eq_true_eq, not_and, Bool.not_eq_true]
    exact h
theorem scanUp_le {p : Int → Bool} {d : Array Int} {j i n : Nat} (h1 : i ≤ n) (h2 : j + 1 ≤ n) : scanUp p d j i ≤ n := by
  by_cases h : i ≤ j + 1
  · have := (scanUp_spec p d j _ i rfl).2.1 h
    omega
  · rw [scanUp_f (by omega)]
    exact h1

theorem C_partitionEqual {d : Array Int} {a b p cap : Nat} {tl : List AV} (ht : Tl tl) (hp1 : a ≤ p) (hp2 : p < b) (hab : a + 1 < b) (hb : b ≤ d.size) (hd : d.size ≤ 255) :
    AM Try.prog f_slices_partitionEqualOrdered_api_Addr [dS d.size cap, iI a, iI b, iI p] [(100000, dC d tl)] (iI (partitionEqual ltInt d a b p).1) [(100000, dC (partitionEqual ltInt d a b p).2 tl)] := by
  refine am_slices_partitionEqualOrdered_api_Addr ?_ (by simp) (Nat.le_add_left 4 _)
  have bA : (a : Int) < (d.size : Int) := by omega
  have bP : (p : Int) < (d.size : Int) := by omega
  obtain ⟨g3, g4, l1, s1, l2, s2⟩ := swp_cells (x := d) tl (show a < d.size by omega) (show p < d.size by omega)
  rw [partitionEqual]
  simp only [go_sem, Nat.reduceAdd, Nat.reduceLT, Nat.reduceEqDiff, Nat.reduceBEq, Nat.reduceLeDiff, Nat.reduceSub, Int.reduceToNat, reduceCtorEq, ↓reduceIte, env0M_mk, c_slices_partitionEqualOrdered_api_Addr, List.map_cons, List.map_nil, bA, bP, g3, g4, l1, s1, l2, s2, Int.natCast_nonneg, Int.toNat_natCast, Nat.zero_add, Nat.mul_one, swp_def,
    iwn (a + 1) (by omega : (a : Int) + 1 = ((a + 1 : Nat) : Int)) (by omega), iwn (b - 1) (by omega : (b : Int) - 1 = ((b - 1 : Nat) : Int)) (by omega)]
  refine aw_loop (fun m E => ∃ (i j : Nat) (x : Array Int), x.size = d.size ∧ a < i ∧ i ≤ b ∧ j < b ∧ j + 1 - i ≤ m ∧ partEqLoop ltInt a i j x = partEqLoop ltInt a (a + 1) (b - 1) (swp d a p) ∧
    E = mkE [(0, dS d.size cap), (1, iI a), (9, iI i), (10, iI j)] [(100000, dC x tl)]) (b - 1 + 1 - (a + 1)) ?_ ?_
  · exact ⟨a + 1, b - 1, swp d a p, swp_size _ _ _, by omega, by omega, by omega, Nat.le_refl _, rfl, by simp only [go_sem, Nat.reduceAdd, Nat.reduceLT, Nat.reduceEqDiff, Nat.reduceBEq, Nat.reduceLeDiff, Nat.reduceSub, Int.reduceToNat, reduceCtorEq, ↓reduceIte]⟩
  · rintro m _ ⟨i, j, x, hx, hai, hib, hjb, hm, hr, rfl⟩
    have gA := dC_ld tl (show a < x.size by omega)
    rw [partEqLoop_eq] at hr
    have hI1 := scanUp_ge (fun y => !ltInt x[a]! y) x j i
    have hI2 := scanUp_le (p := fun y => !ltInt x[a]! y) (d := x) (j := j) hib (show j + 1 ≤ b by omega)
    generalize hI : scanUp (fun y => !ltInt x[a]! y) x j i = I at hr hI1 hI2
    have hJ1 := scanDown_le (fun y => ltInt x[a]! y) x I j
    generalize hJ : scanDown (fun y => ltInt x[a]! y) x I j = J at hr hJ1
    simp only [go_sem, Nat.reduceAdd, Nat.reduceLT, Nat.reduceEqDiff, Nat.reduceBEq, Nat.reduceLeDiff, Nat.reduceSub, Int.reduceToNat, reduceCtorEq, ↓reduceIte]
    refine aw_loopE (fun m' E => ∃ (k : Nat), a < k ∧ j + 1 - k ≤ m' ∧ k ≤ b ∧ scanUp (fun y => !ltInt x[a]! y) x j k = I ∧ E = mkE [(0, dS d.size cap), (1, iI a), (9, iI k), (10, iI j)] [(100000, dC x tl)]) (j + 1 - i) 2
      (mkE [(0, dS d.size cap), (1, iI a), (9, iI I), (10, iI j), (43, .lit (.bool false))] [(100000, dC x tl)]) ?_ ?_ ?_
    · exact ⟨i, hai, Nat.le_refl _, hib, hI, by simp only [go_sem, Nat.reduceAdd, Nat.reduceLT, Nat.reduceEqDiff, Nat.reduceBEq, Nat.reduceLeDiff, Nat.reduceSub, Int.reduceToNat, reduceCtorEq, ↓reduceIte]⟩
    · rintro m' _ ⟨k, hk, hm', hkb, hkI, rfl⟩
      have wk := iwn (k + 1) (by omega : (k : Int) + 1 = ((k + 1 : Nat) : Int)) (by omega)
      by_cases h : k ≤ j
      · have f1 : ((k : Int) ≤ (j : Int)) = True := eq_true (by omega)
        have gK := dC_ld tl (show k < x.size by omega)
        have bK : (k : Int) < (d.size : Int) := by omega
        simp only [go_sem, Nat.reduceAdd, Nat.reduceLT, Nat.reduceEqDiff, Nat.reduceBEq, Nat.reduceLeDiff, Nat.reduceSub, Int.reduceToNat, reduceCtorEq, ↓reduceIte, f1, decide_true, gA, gK, bA, bK, Int.natCast_nonneg, Int.toNat_natCast, Nat.zero_add, Nat.mul_one]
        refine callX_of (C_Less x[a]! x[k]!) ?_
        cases hl : ltInt x[a]! x[k]! with
        | true =>
          rw [scanUp_f (fun _ => by simp [hl])] at hkI
          subst hkI
          simp only [go_sem, Nat.reduceAdd, Nat.reduceLT, Nat.reduceEqDiff, Nat.reduceBEq, Nat.reduceLeDiff, Nat.reduceSub, Int.reduceToNat, reduceCtorEq, ↓reduceIte]
        | false =>
          rw [scanUp_t h (by simp [hl])] at hkI
          simp only [go_sem, Nat.reduceAdd, Nat.reduceLT, Nat.reduceEqDiff, Nat.reduceBEq, Nat.reduceLeDiff, Nat.reduceSub, Int.reduceToNat, reduceCtorEq, ↓reduceIte, wk]
          exact ⟨m' - 1, by omega, k + 1, by omega, by omega, by omega, hkI, rfl⟩
      · have f1 : ((k : Int) ≤ (j : Int)) = False := eq_false (by omega)
        rw [scanUp_f (fun h' => absurd h' h)] at hkI
        subst hkI
        simp only [go_sem, Nat.reduceAdd, Nat.reduceLT, Nat.reduceEqDiff, Nat.reduceBEq, Nat.reduceLeDiff, Nat.reduceSub, Int.reduceToNat, reduceCtorEq, ↓reduceIte, f1, decide_false]
    · simp only [go_sem, Nat.reduceAdd, Nat.reduceLT, Nat.reduceEqDiff, Nat.reduceBEq, Nat.reduceLeDiff, Nat.reduceSub, Int.reduceToNat, reduceCtorEq, ↓reduceIte]
      refine aw_loopE (fun m' E => ∃ (k : Nat), k ≤ m' ∧ k ≤ j ∧ scanDown (fun y => ltInt x[a]! y) x I k = J ∧ E = mkE [(0, dS d.size cap), (1, iI a), (9, iI I), (10, iI k)] [(100000, dC x tl)]) j 4
        (mkE [(0, dS d.size cap), (1, iI a), (9, iI I), (10, iI J), (59, .lit (.bool false))] [(100000, dC x tl)]) ?_ ?_ ?_
      · exact ⟨j, Nat.le_refl _, Nat.le_refl _, hJ, by simp only [go_sem, Nat.reduceAdd, Nat.reduceLT, Nat.reduceEqDiff, Nat.reduceBEq, Nat.reduceLeDiff, Nat.reduceSub, Int.reduceToNat, reduceCtorEq, ↓reduceIte]⟩
      · rintro m' _ ⟨k, hm', hkj, hkJ, rfl⟩
        by_cases h : I ≤ k
        · have f1 : ((I : Int) ≤ (k : Int)) = True := eq_true (by omega)
          have wk := iwn (k - 1) (by omega : (k : Int) - 1 = ((k - 1 : Nat) : Int)) (by omega)
          have gK := dC_ld tl (show k < x.size by omega)
          have bK : (k : Int) < (d.size : Int) := by omega
          simp only [go_sem, Nat.reduceAdd, Nat.reduceLT, Nat.reduceEqDiff, Nat.reduceBEq, Nat.reduceLeDiff, Nat.reduceSub, Int.reduceToNat, reduceCtorEq, ↓reduceIte, f1, decide_true, gA, gK, bA, bK, Int.natCast_nonneg, Int.toNat_natCast, Nat.zero_add, Nat.mul_one]
          refine callX_of (C_Less x[a]! x[k]!) ?_
          cases hl : ltInt x[a]! x[k]! with
          | false =>
            rw [scanDown_f (fun _ => by simp [hl])] at hkJ
            subst hkJ
            simp only [go_sem, Nat.reduceAdd, Nat.reduceLT, Nat.reduceEqDiff, Nat.reduceBEq, Nat.reduceLeDiff, Nat.reduceSub, Int.reduceToNat, reduceCtorEq, ↓reduceIte]
          | true =>
            rw [scanDown_t (by omega) h (by simp [hl])] at hkJ
            simp only [go_sem, Nat.reduceAdd, Nat.reduceLT, Nat.reduceEqDiff, Nat.reduceBEq, Nat.reduceLeDiff, Nat.reduceSub, Int.reduceToNat, reduceCtorEq, ↓reduceIte, wk]
            exact ⟨m' - 1, by omega, k - 1, by omega, by omega, hkJ, rfl⟩
        · have f1 : ((I : Int) ≤ (k : Int)) = False := eq_false (by omega)
          rw [scanDown_f (fun h' => absurd h' h)] at hkJ
          subst hkJ
          simp only [go_sem, Nat.reduceAdd, Nat.reduceLT, Nat.reduceEqDiff, Nat.reduceBEq, Nat.reduceLeDiff, Nat.reduceSub, Int.reduceToNat, reduceCtorEq, ↓reduceIte, f1, decide_false]
      · by_cases h : J < I
        · have f1 : ((J : Int) < (I : Int)) = True := eq_true (by omega)
          rw [if_pos h] at hr
          simp only [go_sem, Nat.reduceAdd, Nat.reduceLT, Nat.reduceEqDiff, Nat.reduceBEq, Nat.reduceLeDiff, Nat.reduceSub, Int.reduceToNat, reduceCtorEq, ↓reduceIte, f1, decide_true, endM_n, endM_r, ← hr, retC_dC ht, and_self]
        · have f1 : ((J : Int) < (I : Int)) = False := eq_false (by omega)
          rw [if_neg h] at hr
          obtain ⟨g3, g4, l1, s1, l2, s2⟩ := swp_cells (x := x) tl (show I < x.size by omega) (show J < x.size by omega)
          have bI : (I : Int) < (d.size : Int) := by omega
          have bJ : (J : Int) < (d.size : Int) := by omega
          simp only [go_sem, Nat.reduceAdd, Nat.reduceLT, Nat.reduceEqDiff, Nat.reduceBEq, Nat.reduceLeDiff, Nat.reduceSub, Int.reduceToNat, reduceCtorEq, ↓reduceIte, f1, decide_false, bI, bJ, g3, g4, l1, s1, l2, s2, Int.natCast_nonneg, Int.toNat_natCast, Nat.zero_add, Nat.mul_one, swp_def,
            iwn (I + 1) (by omega : (I : Int) + 1 = ((I + 1 : Nat) : Int)) (by omega), iwn (J - 1) (by omega : (J : Int) - 1 = ((J - 1 : Nat) : Int)) (by omega)]
          exact ⟨m - 1, by omega, I + 1, J - 1, _, by rw [swp_size, hx], by omega, by omega, by omega, by omega, hr, rfl⟩

/-- The two scans of a partition. -/
theorem partition_eq (d : Array Int) (a b p : Nat) : partition ltInt d a b p =
    if scanUp (fun y => ltInt y (swp d a p)[a]!) (swp d a p) (b - 1) (a + 1) > scanDown (fun y => !ltInt y (swp d a p)[a]!) (swp d a p) (scanUp (fun y => ltInt y (swp d a p)[a]!) (swp d a p) (b - 1) (a + 1)) (b - 1) then
      (scanDown (fun y => !ltInt y (swp d a p)[a]!) (swp d a p) (scanUp (fun y => ltInt y (swp d a p)[a]!) (swp d a p) (b - 1) (a + 1)) (b - 1), true, swp (swp d a p) (scanDown (fun y => !ltInt y (swp d a p)[a]!) (swp d a p) (scanUp (fun y => ltInt y (swp d a p)[a]!) (swp d a p) (b - 1) (a + 1)) (b - 1)) a)
    else ((partLoop ltInt a (scanUp (fun y => ltInt y (swp d a p)[a]!) (swp d a p) (b - 1) (a + 1) + 1) (scanDown (fun y => !ltInt y (swp d a p)[a]!) (swp d a p) (scanUp (fun y => ltInt y (swp d a p)[a]!) (swp d a p) (b - 1) (a + 1)) (b - 1) - 1)
        (swp (swp d a p) (scanUp (fun y => ltInt y (swp d a p)[a]!) (swp d a p) (b - 1) (a + 1)) (scanDown (fun y => !ltInt y (swp d a p)[a]!) (swp d a p) (scanUp (fun y => ltInt y (swp d a p)[a]!) (swp d a p) (b - 1) (a + 1)) (b - 1)))).1, false,
      swp (partLoop ltInt a (scanUp (fun y => ltInt y (swp d a p)[a]!) (swp d a p) (b - 1) (a + 1) + 1) (scanDown (fun y => !ltInt y (swp d a p)[a]!) (swp d a p) (scanUp (fun y => ltInt y (swp d a p)[a]!) (swp d a p) (b - 1) (a + 1)) (b - 1) - 1)
        (swp (swp d a p) (scanUp (fun y => ltInt y (swp d a p)[a]!) (swp d a p) (b - 1) (a + 1)) (scanDown (fun y => !ltInt y (swp d a p)[a]!) (swp d a p) (scanUp (fun y => ltInt y (swp d a p)[a]!) (swp d a p) (b - 1) (a + 1)) (b - 1)))).2
        (partLoop ltInt a (scanUp (fun y => ltInt y (swp d a p)[a]!) (swp d a p) (b - 1) (a + 1) + 1) (scanDown (fun y => !ltInt y (swp d a p)[a]!) (swp d a p) (scanUp (fun y => ltInt y (swp d a p)[a]!) (swp d a p) (b - 1) (a + 1)) (b - 1) - 1)
        (swp (swp d a p) (scanUp (fun y => ltInt y (swp d a p)[a]!) (swp d a p) (b - 1) (a + 1)) (scanDown (fun y => !ltInt y (swp d a p)[a]!) (swp d a p) (scanUp (fun y => ltInt y (swp d a p)[a]!) (swp d a p) (b - 1) (a + 1)) (b - 1)))).1 a) := rfl

theorem C_partition {d : Array Int} {a b p cap : Nat} {tl : List AV} (ht : Tl tl) (hp1 : a ≤ p) (hp2 : p < b) (hab : a + 1 < b) (hb : b ≤ d.size) (hd : d.size ≤ 255) :
    AM Try.prog f_slices_partitionOrdered_api_Addr [dS d.size cap, iI a, iI b, iI p] [(100000, dC d tl)] (.tup [iI (partition ltInt d a b p).1, .lit (.bool (partition ltInt d a b p).2.1)]) [(100000, dC (partition ltInt d a b p).2.2 tl)] := by
  refine am_slices_partitionOrdered_api_Addr ?_ (by simp) (Nat.le_add_left 4 _)
  have bA : (a : Int) < (d.size : Int) := by omega
  have bP : (p : Int) < (d.size : Int) := by omega
  obtain ⟨g3, g4, l1, s1, l2, s2⟩ := swp_cells (x := d) tl (show a < d.size by omega) (show p < d.size by omega)
  simp only [go_sem, Nat.reduceAdd, Nat.reduceLT, Nat.reduceEqDiff, Nat.reduceBEq, Nat.reduceLeDiff, Nat.reduceSub, Int.reduceToNat, reduceCtorEq, ↓reduceIte, env0M_mk, c_slices_partitionOrdered_api_Addr, List.map_cons, List.map_nil, bA, bP, g3, g4, l1, s1, l2, s2, Int.natCast_nonneg, Int.toNat_natCast, Nat.zero_add, Nat.mul_one, swp_def,
    iwn (a + 1) (by omega : (a : Int) + 1 = ((a + 1 : Nat) : Int)) (by omega), iwn (b - 1) (by omega : (b : Int) - 1 = ((b - 1 : Nat) : Int)) (by omega)]
  clear g3 g4 l1 s1 l2 s2
  have hR := partition_eq d a b p
  have hx : (swp d a p).size = d.size := swp_size _ _ _
  generalize swp d a p = x at hR hx
  have gA := dC_ld tl (show a < x.size by omega)
  have hI1 := scanUp_ge (fun y => ltInt y x[a]!) x (b - 1) (a + 1)
  have hI2 := scanUp_le (p := fun y => ltInt y x[a]!) (d := x) (j := b - 1) (i := a + 1) (n := b) (by omega) (by omega)
  generalize hI : scanUp (fun y => ltInt y x[a]!) x (b - 1) (a + 1) = I at hR hI1 hI2
  have hJ1 := scanDown_le (fun y => !ltInt y x[a]!) x I (b - 1)
  generalize hJ : scanDown (fun y => !ltInt y x[a]!) x I (b - 1) = J at hR hJ1
  refine aw_loopE (fun m' E => ∃ (k : Nat), a < k ∧ b - k ≤ m' ∧ k ≤ b ∧ scanUp (fun y => ltInt y x[a]!) x (b - 1) k = I ∧ E = mkE [(0, dS d.size cap), (1, iI a), (10, iI k), (11, iI (b - 1 : Nat))] [(100000, dC x tl)]) b 0
    (mkE [(0, dS d.size cap), (1, iI a), (10, iI I), (11, iI (b - 1 : Nat)), (43, .lit (.bool false))] [(100000, dC x tl)]) ?_ ?_ ?_
  · exact ⟨a + 1, by omega, by omega, by omega, hI, by simp only [go_sem, Nat.reduceAdd, Nat.reduceLT, Nat.reduceEqDiff, Nat.reduceBEq, Nat.reduceLeDiff, Nat.reduceSub, Int.reduceToNat, reduceCtorEq, ↓reduceIte]⟩
  · rintro m' _ ⟨k, hk, hm', hkb, hkI, rfl⟩
    have wk := iwn (k + 1) (by omega : (k : Int) + 1 = ((k + 1 : Nat) : Int)) (by omega)
    by_cases h : k ≤ b - 1
    · have f1 : ((k : Int) ≤ ((b - 1 : Nat) : Int)) = True := eq_true (by omega)
      have gK := dC_ld tl (show k < x.size by omega)
      have bK : (k : Int) < (d.size : Int) := by omega
      simp only [go_sem, Nat.reduceAdd, Nat.reduceLT, Nat.reduceEqDiff, Nat.reduceBEq, Nat.reduceLeDiff, Nat.reduceSub, Int.reduceToNat, reduceCtorEq, ↓reduceIte, f1, decide_true, gA, gK, bA, bK, Int.natCast_nonneg, Int.toNat_natCast, Nat.zero_add, Nat.mul_one]
      refine callX_of (C_Less x[k]! x[a]!) ?_
      cases hl : ltInt x[k]! x[a]! with
      | false =>
        rw [scanUp_f (fun _ => by simp [hl])] at hkI
        subst hkI
        simp only [go_sem, Nat.reduceAdd, Nat.reduceLT, Nat.reduceEqDiff, Nat.reduceBEq, Nat.reduceLeDiff, Nat.reduceSub, Int.reduceToNat, reduceCtorEq, ↓reduceIte]
      | true =>
        rw [scanUp_t h (by simp [hl])] at hkI
        simp only [go_sem, Nat.reduceAdd, Nat.reduceLT, Nat.reduceEqDiff, Nat.reduceBEq, Nat.reduceLeDiff, Nat.reduceSub, Int.reduceToNat, reduceCtorEq, ↓reduceIte, wk]
        exact ⟨m' - 1, by omega, k + 1, by omega, by omega, by omega, hkI, rfl⟩
    · have f1 : ((k : Int) ≤ ((b - 1 : Nat) : Int)) = False := eq_false (by omega)
      rw [scanUp_f (fun h' => absurd h' h)] at hkI
      subst hkI
      simp only [go_sem, Nat.reduceAdd, Nat.reduceLT, Nat.reduceEqDiff, Nat.reduceBEq, Nat.reduceLeDiff, Nat.reduceSub, Int.reduceToNat, reduceCtorEq, ↓reduceIte, f1, decide_false]
  · simp only [go_sem, Nat.reduceAdd, Nat.reduceLT, Nat.reduceEqDiff, Nat.reduceBEq, Nat.reduceLeDiff, Nat.reduceSub, Int.reduceToNat, reduceCtorEq, ↓reduceIte]
    refine aw_loopE (fun m' E => ∃ (k : Nat), k ≤ m' ∧ k ≤ b - 1 ∧ scanDown (fun y => !ltInt y x[a]!) x I k = J ∧ E = mkE [(0, dS d.size cap), (1, iI a), (10, iI I), (11, iI k)] [(100000, dC x tl)]) (b - 1) 2
      (mkE [(0, dS d.size cap), (1, iI a), (10, iI I), (11, iI J), (60, .lit (.bool false))] [(100000, dC x tl)]) ?_ ?_ ?_
    · exact ⟨b - 1, Nat.le_refl _, Nat.le_refl _, hJ, by simp only [go_sem, Nat.reduceAdd, Nat.reduceLT, Nat.reduceEqDiff, Nat.reduceBEq, Nat.reduceLeDiff, Nat.reduceSub, Int.reduceToNat, reduceCtorEq, ↓reduceIte]⟩
    · rintro m' _ ⟨k, hm', hkj, hkJ, rfl⟩
      by_cases h : I ≤ k
      · have f1 : ((I : Int) ≤ (k : Int)) = True := eq_true (by omega)
        have wk := iwn (k - 1) (by omega : (k : Int) - 1 = ((k - 1 : Nat) : Int)) (by omega)
        have gK := dC_ld tl (show k < x.size by omega)
        have bK : (k : Int) < (d.size : Int) := by omega
        simp only [go_sem, Nat.reduceAdd, Nat.reduceLT, Nat.reduceEqDiff, Nat.reduceBEq, Nat.reduceLeDiff, Nat.reduceSub, Int.reduceToNat, reduceCtorEq, ↓reduceIte, f1, decide_true, gA, gK, bA, bK, Int.natCast_nonneg, Int.toNat_natCast, Nat.zero_add, Nat.mul_one]
        refine callX_of (C_Less x[k]! x[a]!) ?_
        cases hl : ltInt x[k]! x[a]! with
        | true =>
          rw [scanDown_f (fun _ => by simp [hl])] at hkJ
          subst hkJ
          simp only [go_sem, Nat.reduceAdd, Nat.reduceLT, Nat.reduceEqDiff, Nat.reduceBEq, Nat.reduceLeDiff, Nat.reduceSub, Int.reduceToNat, reduceCtorEq, ↓reduceIte, Bool.not_true]
        | false =>
          rw [scanDown_t (by omega) h (by simp [hl])] at hkJ
          simp only [go_sem, Nat.reduceAdd, Nat.reduceLT, Nat.reduceEqDiff, Nat.reduceBEq, Nat.reduceLeDiff, Nat.reduceSub, Int.reduceToNat, reduceCtorEq, ↓reduceIte, wk, Bool.not_false]
          exact ⟨m' - 1, by omega, k - 1, by omega, by omega, hkJ, rfl⟩
      · have f1 : ((I : Int) ≤ (k : Int)) = False := eq_false (by omega)
        rw [scanDown_f (fun h' => absurd h' h)] at hkJ
        subst hkJ
        simp only [go_sem, Nat.reduceAdd, Nat.reduceLT, Nat.reduceEqDiff, Nat.reduceBEq, Nat.reduceLeDiff, Nat.reduceSub, Int.reduceToNat, reduceCtorEq, ↓reduceIte, f1, decide_false]
    · have bI : J < I ∨ (I : Int) < (d.size : Int) := by omega
      have bJ : (J : Int) < (d.size : Int) := by omega
      by_cases h : J < I
      · have f1 : ((J : Int) < (I : Int)) = True := eq_true (by omega)
        rw [if_pos h] at hR
        obtain ⟨g3, g4, l1, s1, l2, s2⟩ := swp_cells (x := x) tl (show J < x.size by omega) (show a < x.size by omega)
        simp only [go_sem, Nat.reduceAdd, Nat.reduceLT, Nat.reduceEqDiff, Nat.reduceBEq, Nat.reduceLeDiff, Nat.reduceSub, Int.reduceToNat, reduceCtorEq, ↓reduceIte, f1, decide_true, bA, bJ, g3, g4, l1, s1, l2, s2, Int.natCast_nonneg, Int.toNat_natCast, Nat.zero_add, Nat.mul_one, swp_def, endM_n, endM_r, hR, retC_dC ht, and_self]
      · have f1 : ((J : Int) < (I : Int)) = False := eq_false (by omega)
        rw [if_neg h] at hR
        have bI := bI.resolve_left h
        obtain ⟨g3, g4, l1, s1, l2, s2⟩ := swp_cells (x := x) tl (show I < x.size by omega) (show J < x.size by omega)
        simp only [go_sem, Nat.reduceAdd, Nat.reduceLT, Nat.reduceEqDiff, Nat.reduceBEq, Nat.reduceLeDiff, Nat.reduceSub, Int.reduceToNat, reduceCtorEq, ↓reduceIte, f1, decide_false, bI, bJ, g3, g4, l1, s1, l2, s2, Int.natCast_nonneg, Int.toNat_natCast, Nat.zero_add, Nat.mul_one, swp_def,
          iwn (I + 1) (by omega : (I : Int) + 1 = ((I + 1 : Nat) : Int)) (by omega), iwn (J - 1) (by omega : (J : Int) - 1 = ((J - 1 : Nat) : Int)) (by omega)]
        clear g3 g4 l1 s1 l2 s2 gA
        have hz : (swp x I J).size = d.size := by rw [swp_size, hx]
        have hI3 : a < I + 1 := by omega
        have hI4 : I + 1 ≤ b := by omega
        have hJ3 : J - 1 < b := by omega
        generalize hR0 : partLoop ltInt a (I + 1) (J - 1) (swp x I J) = R at hR
        generalize swp x I J = y at hR0 hz ⊢
        generalize I + 1 = I0 at hR0 hI3 hI4 ⊢
        generalize J - 1 = J0 at hR0 hJ3 ⊢
        rw [hR]
        refine aw_loop (fun m E => ∃ (i j : Nat) (x : Array Int), x.size = d.size ∧ a < i ∧ i ≤ b ∧ j < b ∧ j + 1 - i ≤ m ∧ partLoop ltInt a i j x = R ∧
          E = mkE [(0, dS d.size cap), (1, iI a), (10, iI i), (11, iI j)] [(100000, dC x tl)]) (J0 + 1 - I0) ?_ ?_
        · exact ⟨I0, J0, y, hz, hI3, hI4, hJ3, Nat.le_refl _, hR0, by simp only [go_sem, Nat.reduceAdd, Nat.reduceLT, Nat.reduceEqDiff, Nat.reduceBEq, Nat.reduceLeDiff, Nat.reduceSub, Int.reduceToNat, reduceCtorEq, ↓reduceIte]⟩
        · clear hI hJ hI1 hI2 hJ1 hR hR0 hz hx
          rintro m _ ⟨i, j, x, hx, hai, hib, hjb, hm, hr, rfl⟩
          have gA := dC_ld tl (show a < x.size by omega)
          rw [partLoop_eq] at hr
          have hI1 := scanUp_ge (fun y => ltInt y x[a]!) x j i
          have hI2 := scanUp_le (p := fun y => ltInt y x[a]!) (d := x) (j := j) hib (show j + 1 ≤ b by omega)
          generalize hI : scanUp (fun y => ltInt y x[a]!) x j i = I at hr hI1 hI2
          have hJ1 := scanDown_le (fun y => !ltInt y x[a]!) x I j
          generalize hJ : scanDown (fun y => !ltInt y x[a]!) x I j = J at hr hJ1
          simp only [go_sem, Nat.reduceAdd, Nat.reduceLT, Nat.reduceEqDiff, Nat.reduceBEq, Nat.reduceLeDiff, Nat.reduceSub, Int.reduceToNat, reduceCtorEq, ↓reduceIte]
          refine aw_loopE (fun m' E => ∃ (k : Nat), a < k ∧ j + 1 - k ≤ m' ∧ k ≤ b ∧ scanUp (fun y => ltInt y x[a]!) x j k = I ∧ E = mkE [(0, dS d.size cap), (1, iI a), (10, iI k), (11, iI j)] [(100000, dC x tl)]) (j + 1 - i) 6
            (mkE [(0, dS d.size cap), (1, iI a), (10, iI I), (11, iI j), (112, .lit (.bool false))] [(100000, dC x tl)]) ?_ ?_ ?_
          · exact ⟨i, hai, Nat.le_refl _, hib, hI, by simp only [go_sem, Nat.reduceAdd, Nat.reduceLT, Nat.reduceEqDiff, Nat.reduceBEq, Nat.reduceLeDiff, Nat.reduceSub, Int.reduceToNat, reduceCtorEq, ↓reduceIte]⟩
          · rintro m' _ ⟨k, hk, hm', hkb, hkI, rfl⟩
            have wk := iwn (k + 1) (by omega : (k : Int) + 1 = ((k + 1 : Nat) : Int)) (by omega)
            by_cases h : k ≤ j
            · have f1 : ((k : Int) ≤ (j : Int)) = True := eq_true (by omega)
              have gK := dC_ld tl (show k < x.size by omega)
              have bK : (k : Int) < (d.size : Int) := by omega
              simp only [go_sem, Nat.reduceAdd, Nat.reduceLT, Nat.reduceEqDiff, Nat.reduceBEq, Nat.reduceLeDiff, Nat.reduceSub, Int.reduceToNat, reduceCtorEq, ↓reduceIte, f1, decide_true, gA, gK, bA, bK, Int.natCast_nonneg, Int.toNat_natCast, Nat.zero_add, Nat.mul_one]
              refine callX_of (C_Less x[k]! x[a]!) ?_
              cases hl : ltInt x[k]! x[a]! with
              | false =>
                rw [scanUp_f (fun _ => by simp [hl])] at hkI
                subst hkI
                simp only [go_sem, Nat.reduceAdd, Nat.reduceLT, Nat.reduceEqDiff, Nat.reduceBEq, Nat.reduceLeDiff, Nat.reduceSub, Int.reduceToNat, reduceCtorEq, ↓reduceIte]
              | true =>
                rw [scanUp_t h (by simp [hl])] at hkI
                simp only [go_sem, Nat.reduceAdd, Nat.reduceLT, Nat.reduceEqDiff, Nat.reduceBEq, Nat.reduceLeDiff, Nat.reduceSub, Int.reduceToNat, reduceCtorEq, ↓reduceIte, wk]
                exact ⟨m' - 1, by omega, k + 1, by omega, by omega, by omega, hkI, rfl⟩
            · have f1 : ((k : Int) ≤ (j : Int)) = False := eq_false (by omega)
              rw [scanUp_f (fun h' => absurd h' h)] at hkI
              subst hkI
              simp only [go_sem, Nat.reduceAdd, Nat.reduceLT, Nat.reduceEqDiff, Nat.reduceBEq, Nat.reduceLeDiff, Nat.reduceSub, Int.reduceToNat, reduceCtorEq, ↓reduceIte, f1, decide_false]
          · simp only [go_sem, Nat.reduceAdd, Nat.reduceLT, Nat.reduceEqDiff, Nat.reduceBEq, Nat.reduceLeDiff, Nat.reduceSub, Int.reduceToNat, reduceCtorEq, ↓reduceIte]
            refine aw_loopE (fun m' E => ∃ (k : Nat), k ≤ m' ∧ k ≤ j ∧ scanDown (fun y => !ltInt y x[a]!) x I k = J ∧ E = mkE [(0, dS d.size cap), (1, iI a), (10, iI I), (11, iI k)] [(100000, dC x tl)]) j 8
              (mkE [(0, dS d.size cap), (1, iI a), (10, iI I), (11, iI J), (129, .lit (.bool false))] [(100000, dC x tl)]) ?_ ?_ ?_
            · exact ⟨j, Nat.le_refl _, Nat.le_refl _, hJ, by simp only [go_sem, Nat.reduceAdd, Nat.reduceLT, Nat.reduceEqDiff, Nat.reduceBEq, Nat.reduceLeDiff, Nat.reduceSub, Int.reduceToNat, reduceCtorEq, ↓reduceIte]⟩
            · rintro m' _ ⟨k, hm', hkj, hkJ, rfl⟩
              by_cases h : I ≤ k
              · have f1 : ((I : Int) ≤ (k : Int)) = True := eq_true (by omega)
                have wk := iwn (k - 1) (by omega : (k : Int) - 1 = ((k - 1 : Nat) : Int)) (by omega)
                have gK := dC_ld tl (show k < x.size by omega)
                have bK : (k : Int) < (d.size : Int) := by omega
                simp only [go_sem, Nat.reduceAdd, Nat.reduceLT, Nat.reduceEqDiff, Nat.reduceBEq, Nat.reduceLeDiff, Nat.reduceSub, Int.reduceToNat, reduceCtorEq, ↓reduceIte, f1, decide_true, gA, gK, bA, bK, Int.natCast_nonneg, Int.toNat_natCast, Nat.zero_add, Nat.mul_one]
                refine callX_of (C_Less x[k]! x[a]!) ?_
                cases hl : ltInt x[k]! x[a]! with
                | true =>
                  rw [scanDown_f (fun _ => by simp [hl])] at hkJ
                  subst hkJ
                  simp only [go_sem, Nat.reduceAdd, Nat.reduceLT, Nat.reduceEqDiff, Nat.reduceBEq, Nat.reduceLeDiff, Nat.reduceSub, Int.reduceToNat, reduceCtorEq, ↓reduceIte, Bool.not_true]
                | false =>
                  rw [scanDown_t (by omega) h (by simp [hl])] at hkJ
                  simp only [go_sem, Nat.reduceAdd, Nat.reduceLT, Nat.reduceEqDiff, Nat.reduceBEq, Nat.reduceLeDiff, Nat.reduceSub, Int.reduceToNat, reduceCtorEq, ↓reduceIte, wk, Bool.not_false]
                  exact ⟨m' - 1, by omega, k - 1, by omega, by omega, hkJ, rfl⟩
              · have f1 : ((I : Int) ≤ (k : Int)) = False := eq_false (by omega)
                rw [scanDown_f (fun h' => absurd h' h)] at hkJ
                subst hkJ
                simp only [go_sem, Nat.reduceAdd, Nat.reduceLT, Nat.reduceEqDiff, Nat.reduceBEq, Nat.reduceLeDiff, Nat.reduceSub, Int.reduceToNat, reduceCtorEq, ↓reduceIte, f1, decide_false]
            · have bJ : (J : Int) < (d.size : Int) := by omega
              by_cases h : J < I
              · have f1 : ((J : Int) < (I : Int)) = True := eq_true (by omega)
                rw [if_pos h] at hr
                obtain ⟨g3, g4, l1, s1, l2, s2⟩ := swp_cells (x := x) tl (show J < x.size by omega) (show a < x.size by omega)
                simp only [go_sem, Nat.reduceAdd, Nat.reduceLT, Nat.reduceEqDiff, Nat.reduceBEq, Nat.reduceLeDiff, Nat.reduceSub, Int.reduceToNat, reduceCtorEq, ↓reduceIte, f1, decide_true, bA, bJ, g3, g4, l1, s1, l2, s2, Int.natCast_nonneg, Int.toNat_natCast, Nat.zero_add, Nat.mul_one, swp_def, endM_n, endM_r, ← hr, retC_dC ht, and_self]
              · have f1 : ((J : Int) < (I : Int)) = False := eq_false (by omega)
                rw [if_neg h] at hr
                obtain ⟨g3, g4, l1, s1, l2, s2⟩ := swp_cells (x := x) tl (show I < x.size by omega) (show J < x.size by omega)
                have bI : (I : Int) < (d.size : Int) := by omega
                simp only [go_sem, Nat.reduceAdd, Nat.reduceLT, Nat.reduceEqDiff, Nat.reduceBEq, Nat.reduceLeDiff, Nat.reduceSub, Int.reduceToNat, reduceCtorEq, ↓reduceIte, f1, decide_false, bI, bJ, g3, g4, l1, s1, l2, s2, Int.natCast_nonneg, Int.toNat_natCast, Nat.zero_add, Nat.mul_one, swp_def,
                  iwn (I + 1) (by omega : (I : Int) + 1 = ((I + 1 : Nat) : Int)) (by omega), iwn (J - 1) (by omega : (J : Int) - 1 = ((J - 1 : Nat) : Int)) (by omega)]
                exact ⟨m - 1, by omega, I + 1, J - 1, _, by rw [swp_size, hx], by omega, by omega, by omega, by omega, hr, rfl⟩

end Go.Proofs.Ytmjmfollimaleaa.VL
