/- slices.Sort over addresses, part 7: pdqsort, Sort: contracts. -/
import Derived.Test.YtmjmfollimaleaaSort6
import Derived.Sort.Walk13a
set_option linter.unusedVariables false
set_option linter.unusedSimpArgs false
set_option maxHeartbeats 8000000
namespace Go.Proofs.Ytmjmfollimaleaa.VL
open Go.RowKit Go.Proofs Go.Sort

theorem condX_cut {P : Program} {v : AV} {a b : ACode} {E : Env} {Q : AExit → Env → Prop} {K : Env → Prop} (F : Env → Prop) (h : condX v P a b E (thenQ F Q)) (hF : ∀ E', F E' → K E') : condX v P a b E (thenQ K Q) := by
  obtain ⟨t, ht, h1, h2⟩ := h
  have m : ∀ ex E', thenQ F Q ex E' → thenQ K Q ex E' := fun ex E' h => by
    cases ex with
    | normal => exact hF _ h
    | exit i => exact h
    | ret => exact h
  exact ⟨t, ht, fun e => aw_mono _ m (h1 e), fun e => aw_mono _ m (h2 e)⟩
theorem aw_cut {P : Program} {c rest : ACode} {E : Env} {Q : AExit → Env → Prop} (F : Env → Prop) (h : aw P c E (thenQ F Q)) (hF : ∀ E', F E' → aw P rest E' Q) : aw P (.seq c rest) E Q :=
  aw_mono c (Q := thenQ F Q) (fun ex E' h => by
    cases ex with
    | normal => exact hF _ h
    | exit i => exact h
    | ret => exact h) h
theorem mkE_ext {s s' : List (Nat × AV)} (c : List (Nat × List AV)) (h : ∀ k, getA s k = getA s' k) : mkE s c = mkE s' c := by
  show (⟨getA s, getC c⟩ : Env) = ⟨getA s', getC c⟩
  rw [funext h]

theorem hintI_two (h : Hint) : (hintI h == 2) = decide (h = .decreasing) := by cases h <;> rfl
theorem hintI_one (h : Hint) : (hintI h == 1) = decide (h = .increasing) := by cases h <;> rfl

theorem C_pdq {tl : List AV} (ht : Tl tl) (cap : Nat) : ∀ (n : Nat) (d : Array Int) (a b limit : Nat), b - a < n → a ≤ b → b ≤ d.size → d.size ≤ 255 → limit ≤ 8 → Below ltInt a b d →
    AM Try.prog f_slices_pdqsortOrdered_api_Addr [dS d.size cap, iI a, iI b, iI limit] [(100000, dC d tl)] (.tup []) [(100000, dC (pdq ltInt d a b limit true true) tl)] := by
  intro n
  induction n with
  | zero => intro d a b limit h; exact absurd h (Nat.not_lt_zero _)
  | succ n ih =>
    intro d a b limit hn hab hb hd hlim hBel
    refine am_slices_pdqsortOrdered_api_Addr ?_ (by simp) (Nat.le_add_left 4 _)
    simp only [go_sem, Nat.reduceAdd, Nat.reduceLT, Nat.reduceEqDiff, Nat.reduceBEq, Nat.reduceLeDiff, Nat.reduceSub, Int.reduceToNat, reduceCtorEq, ↓reduceIte, env0M_mk, c_slices_pdqsortOrdered_api_Addr, List.map_cons, List.map_nil]
    refine aw_loop (fun m E => ∃ (a' b' lim : Nat) (wb wp : Bool) (x : Array Int), a' ≤ b' ∧ b' ≤ d.size ∧ b' - a' ≤ m ∧ b' - a' ≤ b - a ∧ lim ≤ 8 ∧ x.size = d.size ∧ Below ltInt a' b' x ∧ pdq ltInt x a' b' lim wb wp = pdq ltInt d a b limit true true ∧
      E = mkE [(0, dS d.size cap), (1, iI a'), (2, iI b'), (3, iI lim), (8, .lit (.bool wb)), (9, .lit (.bool wp))] [(100000, dC x tl)]) (b - a) ?_ ?_
    · exact ⟨a, b, limit, true, true, d, hab, hb, Nat.le_refl _, Nat.le_refl _, hlim, rfl, hBel, rfl, by simp only [go_sem, Nat.reduceAdd, Nat.reduceLT, Nat.reduceEqDiff, Nat.reduceBEq, Nat.reduceLeDiff, Nat.reduceSub, Int.reduceToNat, reduceCtorEq, ↓reduceIte]⟩
    · rintro m _ ⟨a', b', lim, wb, wp, x, hab', hb', hm, hN, hl8, hx, hB, heq, rfl⟩
      have wl := iwn (b' - a') (by omega : (b' : Int) - (a' : Int) = ((b' - a' : Nat) : Int)) (by omega)
      by_cases h12 : b' - a' ≤ 12
      · have f1 : (((b' - a' : Nat) : Int) ≤ 12) = True := eq_true (by omega)
        rw [pdq_small h12] at heq
        have hC := C_insertion (cap := cap) (d := x) ht hab' (by omega) (by omega)
        rw [hx, heq] at hC
        simp only [go_sem, Nat.reduceAdd, Nat.reduceLT, Nat.reduceEqDiff, Nat.reduceBEq, Nat.reduceLeDiff, Nat.reduceSub, Int.reduceToNat, reduceCtorEq, ↓reduceIte, wl, f1, decide_true]
        refine callD_of ht rfl hC ?_
        simp only [go_sem, Nat.reduceAdd, Nat.reduceLT, Nat.reduceEqDiff, Nat.reduceBEq, Nat.reduceLeDiff, Nat.reduceSub, Int.reduceToNat, reduceCtorEq, ↓reduceIte, endM_n, endM_r, retC_dC ht, and_self]
      have f1 : (((b' - a' : Nat) : Int) ≤ 12) = False := eq_false (by omega)
      by_cases hl0 : lim = 0
      · have f2 : ((lim : Int) == 0) = true := by simp [hl0]
        rw [pdq_heap h12 hl0] at heq
        have hC := C_heap (cap := cap) (d := x) ht (show a' < b' by omega) (by omega) (by omega)
        rw [hx, heq] at hC
        simp only [go_sem, Nat.reduceAdd, Nat.reduceLT, Nat.reduceEqDiff, Nat.reduceBEq, Nat.reduceLeDiff, Nat.reduceSub, Int.reduceToNat, reduceCtorEq, ↓reduceIte, wl, f1, decide_false, f2]
        refine callD_of ht rfl hC ?_
        simp only [go_sem, Nat.reduceAdd, Nat.reduceLT, Nat.reduceEqDiff, Nat.reduceBEq, Nat.reduceLeDiff, Nat.reduceSub, Int.reduceToNat, reduceCtorEq, ↓reduceIte, endM_n, endM_r, retC_dC ht, and_self]
      have f2 : ((lim : Int) == 0) = false := by simp; omega
      obtain ⟨s1, B1, hc1, s2, B2, hpv, s3, B3⟩ := rd_facts (limit := lim) (wb := wb) (wp := wp) swo_ltInt partialInsertionSort_holds reverseRange_holds (show a' < b' by omega) (show b' ≤ x.size by omega) hB
      have hD := pdq_done (lt := ltInt) (d := x) (a := a') (b := b') (limit := lim) (wb := wb) (wp := wp) h12 hl0
      have hE := pdq_eq (lt := ltInt) (d := x) (a := a') (b := b') (limit := lim) (wb := wb) (wp := wp) h12 hl0
      have hL := pdq_left (lt := ltInt) (d := x) (a := a') (b := b') (limit := lim) (wb := wb) (wp := wp) h12 hl0
      have hR := pdq_right (lt := ltInt) (d := x) (a := a') (b := b') (limit := lim) (wb := wb) (wp := wp) h12 hl0
      have hb1 : wb = false → (rd ltInt x a' b' lim wb wp).d1 = breakPatterns x a' b' ∧ (rd ltInt x a' b' lim wb wp).lim = lim - 1 := by rintro rfl; exact rd_false
      have hb2 : wb = true → (rd ltInt x a' b' lim wb wp).d1 = x ∧ (rd ltInt x a' b' lim wb wp).lim = lim := by rintro rfl; exact rd_true
      have hcp := rd_c (lt := ltInt) (d := x) (a := a') (b := b') (limit := lim) (wb := wb) (wp := wp)
      have hdec := rd_dec (lt := ltInt) (d := x) (a := a') (b := b') (limit := lim) (wb := wb) (wp := wp)
      have hnot := rd_not (lt := ltInt) (d := x) (a := a') (b := b') (limit := lim) (wb := wb) (wp := wp)
      have hpy := rd_pi_yes (lt := ltInt) (d := x) (a := a') (b := b') (limit := lim) (wb := wb) (wp := wp)
      have hpn := rd_pi_no (lt := ltInt) (d := x) (a := a') (b := b') (limit := lim) (wb := wb) (wp := wp)
      have hll := rd_lim_le (lt := ltInt) (d := x) (a := a') (b := b') (limit := lim) (wb := wb) (wp := wp)
      generalize rd ltInt x a' b' lim wb wp = r at s1 B1 hc1 s2 B2 hpv s3 B3 hD hE hL hR hb1 hb2 hcp hdec hnot hpy hpn hll
      simp only [go_sem, Nat.reduceAdd, Nat.reduceLT, Nat.reduceEqDiff, Nat.reduceBEq, Nat.reduceLeDiff, Nat.reduceSub, Int.reduceToNat, reduceCtorEq, ↓reduceIte, wl, f1, decide_false, f2]
      refine condX_cut (fun E' => ∃ z, E' = mkE [(0, dS d.size cap), (1, iI a'), (2, iI b'), (3, iI r.lim), (8, .lit (.bool wb)), (9, .lit (.bool wp)), (10, iI (b' - a' : Nat)), (35, z)] [(100000, dC r.d1 tl)]) ?_ ?_
      · cases wb with
        | true =>
          obtain ⟨e1, e2⟩ := hb2 rfl
          simp only [go_sem, Nat.reduceAdd, Nat.reduceLT, Nat.reduceEqDiff, Nat.reduceBEq, Nat.reduceLeDiff, Nat.reduceSub, Int.reduceToNat, reduceCtorEq, ↓reduceIte, Bool.not_true, e1, e2]
          exact ⟨_, rfl⟩
        | false =>
          obtain ⟨e1, e2⟩ := hb1 rfl
          have hC := C_breakPatterns (cap := cap) (d := x) ht (show a' + 12 < b' by omega) (by omega) (by omega)
          rw [hx, ← e1] at hC
          simp only [go_sem, Nat.reduceAdd, Nat.reduceLT, Nat.reduceEqDiff, Nat.reduceBEq, Nat.reduceLeDiff, Nat.reduceSub, Int.reduceToNat, reduceCtorEq, ↓reduceIte, Bool.not_false]
          refine callD_of ht rfl hC ?_
          simp only [go_sem, Nat.reduceAdd, Nat.reduceLT, Nat.reduceEqDiff, Nat.reduceBEq, Nat.reduceLeDiff, Nat.reduceSub, Int.reduceToNat, reduceCtorEq, ↓reduceIte, iwn (lim - 1) (by omega : (lim : Int) - 1 = ((lim - 1 : Nat) : Int)) (by omega)]
          refine ⟨.dead, ?_⟩
          rw [e2]
          exact mkE_ext _ fun k => by by_cases h : k = 35 <;> simp [getA, h]
      · rintro _ ⟨z, rfl⟩
        have hC := C_choosePivot (cap := cap) (d := r.d1) ht (show a' + 12 < b' by omega) (by omega) (by omega)
        rw [s1, hx, ← hcp] at hC
        simp only [go_sem, Nat.reduceAdd, Nat.reduceLT, Nat.reduceEqDiff, Nat.reduceBEq, Nat.reduceLeDiff, Nat.reduceSub, Int.reduceToNat, reduceCtorEq, ↓reduceIte]
        refine callD_of ht rfl hC ?_
        simp only [go_sem, Nat.reduceAdd, Nat.reduceLT, Nat.reduceEqDiff, Nat.reduceBEq, Nat.reduceLeDiff, Nat.reduceSub, Int.reduceToNat, reduceCtorEq, ↓reduceIte, hintI_two]
        refine condX_cut (fun E' => ∃ z, E' = mkE [(0, dS d.size cap), (1, iI a'), (2, iI b'), (3, iI r.lim), (8, .lit (.bool wb)), (9, .lit (.bool wp)), (10, iI (b' - a' : Nat)), (11, iI r.pivot), (12, .lit (.int .i64 (hintI r.hint))), (50, z)] [(100000, dC r.d2 tl)]) ?_ ?_
        · by_cases hh : r.c.2 = .decreasing
          · obtain ⟨e1, e2, e3⟩ := hdec hh
            have hC := C_reverse (cap := cap) (d := r.d1) ht (show a' < b' by omega) (by omega) (by omega)
            rw [s1, hx, ← e1] at hC
            simp only [go_sem, Nat.reduceAdd, Nat.reduceLT, Nat.reduceEqDiff, Nat.reduceBEq, Nat.reduceLeDiff, Nat.reduceSub, Int.reduceToNat, reduceCtorEq, ↓reduceIte, hh, decide_true]
            refine callD_of ht rfl hC ?_
            simp only [go_sem, Nat.reduceAdd, Nat.reduceLT, Nat.reduceEqDiff, Nat.reduceBEq, Nat.reduceLeDiff, Nat.reduceSub, Int.reduceToNat, reduceCtorEq, ↓reduceIte, iwn (b' - 1) (by omega : (b' : Int) - 1 = ((b' - 1 : Nat) : Int)) (by omega), iwn (r.c.1 - a') (by omega : (r.c.1 : Int) - (a' : Int) = ((r.c.1 - a' : Nat) : Int)) (by omega),
              iwn (b' - 1 - (r.c.1 - a')) (by omega : ((b' - 1 : Nat) : Int) - ((r.c.1 - a' : Nat) : Int) = ((b' - 1 - (r.c.1 - a') : Nat) : Int)) (by omega)]
            refine ⟨.dead, ?_⟩
            rw [e2, e3]
            exact mkE_ext _ fun k => by by_cases h : k = 50 <;> simp [getA, h, hintI]
          · obtain ⟨e1, e2, e3⟩ := hnot hh
            simp only [go_sem, Nat.reduceAdd, Nat.reduceLT, Nat.reduceEqDiff, Nat.reduceBEq, Nat.reduceLeDiff, Nat.reduceSub, Int.reduceToNat, reduceCtorEq, ↓reduceIte, hh, decide_false, e1, e2, e3]
            exact ⟨_, rfl⟩
        · rintro _ ⟨z, rfl⟩
          refine aw_cut (fun E' => r.pi.2 = false ∧ ∃ z1 z2, E' = mkE [(0, dS d.size cap), (1, iI a'), (2, iI b'), (3, iI r.lim), (8, .lit (.bool wb)), (9, .lit (.bool wp)), (10, iI (b' - a' : Nat)), (11, iI r.pivot), (68, z1), (72, z2)] [(100000, dC r.pi.1 tl)]) ?_ ?_
          · have no : r.pi = (r.d2, false) → ∀ t : AV, (r.pi.2 = false ∧ ∃ z1 z2, mkE [(0, dS d.size cap), (1, iI a'), (2, iI b'), (3, iI r.lim), (8, .lit (.bool wb)), (9, .lit (.bool wp)), (10, iI (b' - a' : Nat)), (11, iI r.pivot), (68, t)] [(100000, dC r.d2 tl)] =
                mkE [(0, dS d.size cap), (1, iI a'), (2, iI b'), (3, iI r.lim), (8, .lit (.bool wb)), (9, .lit (.bool wp)), (10, iI (b' - a' : Nat)), (11, iI r.pivot), (68, z1), (72, z2)] [(100000, dC r.pi.1 tl)]) := by
              intro e t
              rw [e]
              refine ⟨rfl, t, .dead, mkE_ext _ fun k => ?_⟩
              by_cases h : k = 72 <;> simp [getA, h]
            cases wb with
            | false =>
              have e := no (hpn rfl)
              simp only [go_sem, Nat.reduceAdd, Nat.reduceLT, Nat.reduceEqDiff, Nat.reduceBEq, Nat.reduceLeDiff, Nat.reduceSub, Int.reduceToNat, reduceCtorEq, ↓reduceIte]
              exact e _
            | true =>
              cases wp with
              | false =>
                have e := no (hpn rfl)
                simp only [go_sem, Nat.reduceAdd, Nat.reduceLT, Nat.reduceEqDiff, Nat.reduceBEq, Nat.reduceLeDiff, Nat.reduceSub, Int.reduceToNat, reduceCtorEq, ↓reduceIte]
                exact e _
              | true =>
                by_cases hi : r.hint = .increasing
                · have e := hpy (by simp [hi])
                  have hC := C_partialIns (cap := cap) (d := r.d2) ht (show a' < b' by omega) (by omega) (by omega)
                  rw [s2, hx, ← e] at hC
                  simp only [go_sem, Nat.reduceAdd, Nat.reduceLT, Nat.reduceEqDiff, Nat.reduceBEq, Nat.reduceLeDiff, Nat.reduceSub, Int.reduceToNat, reduceCtorEq, ↓reduceIte, hintI_one, hi, decide_true]
                  refine callD_of ht rfl hC ?_
                  cases h2 : r.pi.2 with
                  | true =>
                    have e2 := hD h2
                    rw [heq] at e2
                    simp only [go_sem, Nat.reduceAdd, Nat.reduceLT, Nat.reduceEqDiff, Nat.reduceBEq, Nat.reduceLeDiff, Nat.reduceSub, Int.reduceToNat, reduceCtorEq, ↓reduceIte, endM_n, endM_r, e2, retC_dC ht, and_self]
                  | false =>
                    simp only [go_sem, Nat.reduceAdd, Nat.reduceLT, Nat.reduceEqDiff, Nat.reduceBEq, Nat.reduceLeDiff, Nat.reduceSub, Int.reduceToNat, reduceCtorEq, ↓reduceIte, true_and]
                    refine ⟨.dead, .lit (.bool false), mkE_ext _ fun k => ?_⟩
                    by_cases h : k = 68 <;> simp [getA, h]
                · have e := no (hpn (by simp [hi]))
                  simp only [go_sem, Nat.reduceAdd, Nat.reduceLT, Nat.reduceEqDiff, Nat.reduceBEq, Nat.reduceLeDiff, Nat.reduceSub, Int.reduceToNat, reduceCtorEq, ↓reduceIte, hintI_one, hi, decide_false]
                  exact e _
          · rintro _ ⟨hp2, z1, z2, rfl⟩
            have hz : r.pi.1.size = d.size := by rw [s3, hx]
            have hbz : b' ≤ r.pi.1.size := by omega
            have wE : (((b' - a' : Nat) : Int)).tdiv 8 = (((b' - a') / 8 : Nat) : Int) := by
              rw [Int.tdiv_eq_ediv_of_nonneg (by omega)]
              omega
            refine aw_cut (fun E' => (decide (a' > 0) && !ltInt r.pi.1[a' - 1]! r.pi.1[r.pivot]!) = false ∧ ∃ z, E' = mkE [(0, dS d.size cap), (1, iI a'), (2, iI b'), (3, iI r.lim), (8, .lit (.bool wb)), (9, .lit (.bool wp)), (10, iI (b' - a' : Nat)), (11, iI r.pivot), (87, z)] [(100000, dC r.pi.1 tl)]) ?_ ?_
            · by_cases ha : 0 < a'
              · have f3 : ((0 : Int) < (a' : Int)) = True := eq_true (by omega)
                have wa := iwn (a' - 1) (by omega : (a' : Int) - 1 = ((a' - 1 : Nat) : Int)) (by omega)
                have g1 := dC_ld tl (show a' - 1 < r.pi.1.size by omega)
                have g2 := dC_ld tl (show r.pivot < r.pi.1.size by omega)
                have b1 : ((a' - 1 : Nat) : Int) < (d.size : Int) := by omega
                have b2 : (r.pivot : Int) < (d.size : Int) := by omega
                simp only [go_sem, Nat.reduceAdd, Nat.reduceLT, Nat.reduceEqDiff, Nat.reduceBEq, Nat.reduceLeDiff, Nat.reduceSub, Int.reduceToNat, reduceCtorEq, ↓reduceIte, f3, decide_true, wa, g1, g2, b1, b2, Int.natCast_nonneg, Int.toNat_natCast, Nat.zero_add, Nat.mul_one]
                refine callX_of (C_Less r.pi.1[a' - 1]! r.pi.1[r.pivot]!) ?_
                cases hl : ltInt r.pi.1[a' - 1]! r.pi.1[r.pivot]! with
                | true =>
                  simp only [go_sem, Nat.reduceAdd, Nat.reduceLT, Nat.reduceEqDiff, Nat.reduceBEq, Nat.reduceLeDiff, Nat.reduceSub, Int.reduceToNat, reduceCtorEq, ↓reduceIte, Bool.not_true, Bool.and_false, true_and]
                  exact ⟨_, rfl⟩
                | false =>
                  obtain ⟨h3, h4, hs4, hB4, _⟩ := round_eq (mid := (partitionEqual ltInt r.pi.1 a' b' r.pivot).1) (d4 := (partitionEqual ltInt r.pi.1 a' b' r.pivot).2) swo_ltInt (partitionEqual_holds _) ha hpv.1 hpv.2 hbz B3 hl rfl
                  have e := hE hp2 (by simp [hl, ha]) ⟨h3, h4⟩
                  have hC := C_partitionEqual (cap := cap) (d := r.pi.1) ht hpv.1 hpv.2 (by omega) hbz (by omega)
                  rw [hz] at hC hs4
                  rw [heq] at e
                  generalize partitionEqual ltInt r.pi.1 a' b' r.pivot = q at h3 h4 hs4 hB4 e hC
                  simp only [go_sem, Nat.reduceAdd, Nat.reduceLT, Nat.reduceEqDiff, Nat.reduceBEq, Nat.reduceLeDiff, Nat.reduceSub, Int.reduceToNat, reduceCtorEq, ↓reduceIte, Bool.not_false]
                  refine callD_of ht rfl hC ?_
                  simp only [go_sem, Nat.reduceAdd, Nat.reduceLT, Nat.reduceEqDiff, Nat.reduceBEq, Nat.reduceLeDiff, Nat.reduceSub, Int.reduceToNat, reduceCtorEq, ↓reduceIte]
                  exact ⟨m - 1, by omega, q.1, b', r.lim, wb, wp, q.2, h4, hb', by omega, by omega, by omega, hs4, hB4, e.symm, rfl⟩
              · have f3 : ((0 : Int) < (a' : Int)) = False := eq_false (by omega)
                simp only [go_sem, Nat.reduceAdd, Nat.reduceLT, Nat.reduceEqDiff, Nat.reduceBEq, Nat.reduceLeDiff, Nat.reduceSub, Int.reduceToNat, reduceCtorEq, ↓reduceIte, f3, decide_false, show decide (a' > 0) = false by simp; omega, Bool.false_and, true_and]
                exact ⟨_, rfl⟩
            · rintro _ ⟨ht2, z, rfl⟩
              obtain ⟨h3, h4, hs4, hB4, hB5, hLL, hRR⟩ := round_part (mid := (partition ltInt r.pi.1 a' b' r.pivot).1) (ap := (partition ltInt r.pi.1 a' b' r.pivot).2.1) (d4 := (partition ltInt r.pi.1 a' b' r.pivot).2.2) swo_ltInt (partition_holds _) hpv.1 hpv.2 hbz B3 rfl
              have eL := hL hp2 ht2 ⟨h3, h4⟩
              have eR := hR hp2 ht2 ⟨h3, h4⟩
              have hC := C_partition (cap := cap) (d := r.pi.1) ht hpv.1 hpv.2 (by omega) hbz (by omega)
              rw [hz] at hC hs4
              rw [heq] at eL eR
              generalize partition ltInt r.pi.1 a' b' r.pivot = q at h3 h4 hs4 hB4 hB5 hLL hRR eL eR hC
              have wx := iwn (q.1 - a') (by omega : (q.1 : Int) - (a' : Int) = ((q.1 - a' : Nat) : Int)) (by omega)
              have wy := iwn (b' - q.1) (by omega : (b' : Int) - (q.1 : Int) = ((b' - q.1 : Nat) : Int)) (by omega)
              have w8 := iwn ((b' - a') / 8) rfl (by omega)
              have wp1 := iwn (q.1 + 1) (by omega : (q.1 : Int) + 1 = ((q.1 + 1 : Nat) : Int)) (by omega)
              simp only [go_sem, Nat.reduceAdd, Nat.reduceLT, Nat.reduceEqDiff, Nat.reduceBEq, Nat.reduceLeDiff, Nat.reduceSub, Int.reduceToNat, reduceCtorEq, ↓reduceIte]
              refine callD_of ht rfl hC ?_
              by_cases hlr : q.1 - a' < b' - q.1
              · have f4 : (((q.1 - a' : Nat) : Int) < ((b' - q.1 : Nat) : Int)) = True := eq_true (by omega)
                have hI := ih q.2.2 a' q.1 r.lim (by omega) h3 (by omega) (by omega) (by omega) hB4
                rw [hs4] at hI
                have hp := pdq_sorts ltInt swo_ltInt q.2.2 a' q.1 r.lim true true h3 (by omega) hB4
                obtain ⟨hB6, _⟩ := hLL _ hp.1 hp.2
                have e := eL hlr
                have e8 : decide ((((b' - a') / 8 : Nat) : Int) ≤ ((q.1 - a' : Nat) : Int)) = decide (q.1 - a' ≥ (b' - a') / 8) := decide_eq_decide.2 (by omega)
                simp only [go_sem, Nat.reduceAdd, Nat.reduceLT, Nat.reduceEqDiff, Nat.reduceBEq, Nat.reduceLeDiff, Nat.reduceSub, Int.reduceToNat, reduceCtorEq, ↓reduceIte, wx, wy, wE, w8, f4, decide_true, e8, show ((8 : Int) == 0) = false from rfl]
                refine callD_of ht rfl hI ?_
                simp only [go_sem, Nat.reduceAdd, Nat.reduceLT, Nat.reduceEqDiff, Nat.reduceBEq, Nat.reduceLeDiff, Nat.reduceSub, Int.reduceToNat, reduceCtorEq, ↓reduceIte, wp1]
                exact ⟨m - 1, by omega, q.1 + 1, b', r.lim, _, q.2.1, _, by omega, hb', by omega, by omega, by omega, by rw [hp.1.1, hs4], hB6, e.symm, rfl⟩
              · have f4 : (((q.1 - a' : Nat) : Int) < ((b' - q.1 : Nat) : Int)) = False := eq_false (by omega)
                have hI := ih q.2.2 (q.1 + 1) b' r.lim (by omega) (by omega) (by omega) (by omega) (by omega) hB5
                rw [hs4] at hI
                have hp := pdq_sorts ltInt swo_ltInt q.2.2 (q.1 + 1) b' r.lim true true (by omega) (by omega) hB5
                obtain ⟨hB6, _⟩ := hRR _ hp.1 hp.2
                have e := eR hlr
                have e8 : decide ((((b' - a') / 8 : Nat) : Int) ≤ ((b' - q.1 : Nat) : Int)) = decide (b' - q.1 ≥ (b' - a') / 8) := decide_eq_decide.2 (by omega)
                simp only [go_sem, Nat.reduceAdd, Nat.reduceLT, Nat.reduceEqDiff, Nat.reduceBEq, Nat.reduceLeDiff, Nat.reduceSub, Int.reduceToNat, reduceCtorEq, ↓reduceIte, wx, wy, wE, w8, f4, decide_false, e8, wp1, show ((8 : Int) == 0) = false from rfl]
                refine callD_of ht rfl hI ?_
                simp only [go_sem, Nat.reduceAdd, Nat.reduceLT, Nat.reduceEqDiff, Nat.reduceBEq, Nat.reduceLeDiff, Nat.reduceSub, Int.reduceToNat, reduceCtorEq, ↓reduceIte]
                exact ⟨m - 1, by omega, a', q.1, r.lim, _, q.2.1, _, h3, by omega, by omega, by omega, by omega, by rw [hp.1.1, hs4], hB6, e.symm, rfl⟩

theorem C_Sort {d : Array Int} {cap : Nat} {tl : List AV} (ht : Tl tl) (hd : d.size ≤ 255) :
    AM Try.prog f_slices_Sort_api_Addr_api_Addr [dS d.size cap] [(100000, dC d tl)] (.tup []) [(100000, dC (sort ltInt d) tl)] := by
  refine am_slices_Sort_api_Addr_api_Addr ?_ (by simp) (Nat.le_add_left 1 _)
  have wu : IntKind.u64.wrap (d.size : Int) = (d.size : Int) := by rw [IntKind.wrap_u64]; omega
  have hC := C_pdq ht cap (d.size + 1) d 0 d.size (bitsLen d.size) (by omega) (Nat.zero_le _) (Nat.le_refl _) hd (bitsLen_le8 (by omega)) (Or.inl rfl)
  simp only [go_sem, Nat.reduceAdd, Nat.reduceLT, Nat.reduceEqDiff, Nat.reduceBEq, Nat.reduceLeDiff, Nat.reduceSub, Int.reduceToNat, reduceCtorEq, ↓reduceIte, env0M_mk, c_slices_Sort_api_Addr_api_Addr, List.map_cons, List.map_nil, wu]
  refine callX_of (C_Len (n := d.size) (by omega)) ?_
  simp only [go_sem, Nat.reduceAdd, Nat.reduceLT, Nat.reduceEqDiff, Nat.reduceBEq, Nat.reduceLeDiff, Nat.reduceSub, Int.reduceToNat, reduceCtorEq, ↓reduceIte]
  refine callD_of ht rfl hC ?_
  simp only [go_sem, Nat.reduceAdd, Nat.reduceLT, Nat.reduceEqDiff, Nat.reduceBEq, Nat.reduceLeDiff, Nat.reduceSub, Int.reduceToNat, reduceCtorEq, ↓reduceIte, endM_n, endM_r]
  exact retC_dC ht

/-- Sorting puts a row of numbers in their order. -/
theorem C_SortL {l : List Int} {cap : Nat} {tl : List AV} (ht : Tl tl) (hd : l.length ≤ 255) :
    AM Try.prog f_slices_Sort_api_Addr_api_Addr [dS l.length cap] [(100000, l.map aI ++ tl)] (.tup []) [(100000, (l.mergeSort (fun x y => decide (x ≤ y))).map aI ++ tl)] := by
  have h := C_Sort (d := l.toArray) (cap := cap) ht (by simpa using hd)
  rw [show l.toArray.size = l.length by simp] at h
  rw [show dC l.toArray tl = l.map aI ++ tl by simp [dC], show dC (sort ltInt l.toArray) tl = (l.mergeSort (fun x y => decide (x ≤ y))).map aI ++ tl by rw [dC, sortInt l]] at h
  exact h

end Go.Proofs.Ytmjmfollimaleaa.VL
