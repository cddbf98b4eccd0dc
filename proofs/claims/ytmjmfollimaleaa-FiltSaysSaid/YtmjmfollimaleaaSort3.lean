/- slices.Sort over addresses, part 3: order2, median, medianAdjacent, choosePivot: contracts. -/
import Derived.Test.YtmjmfollimaleaaSort2
set_option linter.unusedVariables false
set_option linter.unusedSimpArgs false
set_option maxHeartbeats 4000000
namespace Go.Proofs.Ytmjmfollimaleaa.VL
open Go.RowKit Go.Proofs Go.Sort

/-- The row, and how many exchanges there were. -/
abbrev sC (d : Array Int) (tl : List AV) (sw : Nat) : List (Nat × List AV) := [(100000, dC d tl), (100001, [iI sw])]
abbrev SM : List (Nat × Nat) := [(100000, 100000), (100001, 100001)]

theorem retC_sC {s : List (Nat × AV)} {d : Array Int} {tl : List AV} (ht : Tl tl) (sw : Nat) : retC (mkE s (sC d tl sw)) [100000, 100001] = some (sC d tl sw) := by
  have e : ∀ C, retv C false 8 (iI sw) = some (iI sw) := fun _ => rfl
  simp only [retC, mapO_cons, mapO_nil, mkE_c, getC_cons, ↓reduceIte, ret_dC _ d ht, catO_some, show ((100001 : Nat) = 100000) = False from by simp, e]

theorem back_sC (s : List (Nat × AV)) (x y : List AV) (p q : List AV) : backC SM [(100000, y), (100001, q)] (mkE s [(100000, x), (100001, p)]) = mkE s [(100000, y), (100001, q)] := by
  simp only [backC, mkE]
  congr 1
  funext c
  by_cases h : c = 100000
  · subst h; rfl
  · by_cases h2 : c = 100001
    · subst h2; rfl
    · simp [lentAs, getC, h, h2]

/-- A call that the row and the count are lent to. -/
theorem callS_of {P : Program} {dst : Option Nat} {os : List AOper} {s : List (Nat × AV)} {K : Env → Prop} {f : FuncId} {raw al : List AV} {args : Option (List AV)} {r : AV} {d : Array Int} {tl : List AV} {sw sw' : Nat} (ht : Tl tl)
    (hl : mapO (lowerM SM (getC (sC d tl sw)) 8) raw = some al) (h : AM P f al (sC d tl sw) r (sC d tl sw'))
    (hk : awX false P os ((mkE s (sC d tl sw')).putO dst (retag (dst.getD 0) (unlend SM r))) K) : callX false P dst os s (sC d tl sw) K f raw args := by
  refine callM_of SM rfl hl ?_ h ?_
  · have e : closeV (iI sw) = some (iI sw) := rfl
    show mapO _ SM = _
    simp only [SM, mapO_cons, mapO_nil, getC_cons, ↓reduceIte, close_dC d ht, catO_some, show ((100001 : Nat) = 100000) = False from by simp, e]
  · rw [back_sC]
    exact hk

theorem C_order2 {d : Array Int} {a b sw cap : Nat} {tl : List AV} (ht : Tl tl) (ha : a < d.size) (hb : b < d.size) (hsw : sw ≤ 1000) :
    AM Try.prog f_slices_order2Ordered_api_Addr [dS d.size cap, iI a, iI b, .lp 100001 0] (sC d tl sw) (.tup [iI (order2 ltInt d a b sw).1, iI (order2 ltInt d a b sw).2.1]) (sC d tl (order2 ltInt d a b sw).2.2) := by
  refine am_slices_order2Ordered_api_Addr ?_ (by simp) (Nat.le_add_left 4 _)
  have b1 : (a : Int) < (d.size : Int) := by omega
  have b2 : (b : Int) < (d.size : Int) := by omega
  simp only [go_sem, Nat.reduceAdd, Nat.reduceLT, Nat.reduceEqDiff, Nat.reduceBEq, Nat.reduceLeDiff, Nat.reduceSub, Int.reduceToNat, reduceCtorEq, ↓reduceIte, env0M_mk, c_slices_order2Ordered_api_Addr, List.map_cons, List.map_nil, b1, b2, dC_ld tl ha, dC_ld tl hb, Int.natCast_nonneg, Int.toNat_natCast, Nat.zero_add, Nat.mul_one]
  refine callX_of (C_Less d[b]! d[a]!) ?_
  cases h : ltInt d[b]! d[a]! with
  | true =>
    have e : order2 ltInt d a b sw = (b, a, sw + 1) := by rw [order2, if_pos h]
    have r1 := retC_sC (s := [(0, dS d.size cap), (1, iI a), (2, iI b), (3, .lp 100001 0), (8, iI b), (9, iI a)]) (d := d) ht (sw + 1)
    simp only [go_sem, Nat.reduceAdd, Nat.reduceLT, Nat.reduceEqDiff, Nat.reduceBEq, Nat.reduceLeDiff, Nat.reduceSub, Int.reduceToNat, reduceCtorEq, ↓reduceIte, e, iwn (sw + 1) (by omega : (sw : Int) + 1 = ((sw + 1 : Nat) : Int)) (by omega), endM_n, endM_r]
    exact retC_sC ht (sw + 1)
  | false =>
    have e : order2 ltInt d a b sw = (a, b, sw) := by rw [order2, if_neg (by simp [h])]
    simp only [go_sem, Nat.reduceAdd, Nat.reduceLT, Nat.reduceEqDiff, Nat.reduceBEq, Nat.reduceLeDiff, Nat.reduceSub, Int.reduceToNat, reduceCtorEq, ↓reduceIte, e, endM_n, endM_r]
    exact retC_sC ht sw

theorem order2_lt {d : Array Int} {a b n : Nat} (sw : Nat) (ha : a < n) (hb : b < n) : (order2 ltInt d a b sw).1 < n ∧ (order2 ltInt d a b sw).2.1 < n ∧ (order2 ltInt d a b sw).2.2 ≤ sw + 1 := by
  rw [order2]
  split
  · exact ⟨hb, ha, Nat.le_refl _⟩
  · exact ⟨ha, hb, Nat.le_succ _⟩

theorem C_median {d : Array Int} {a b c sw cap : Nat} {tl : List AV} (ht : Tl tl) (ha : a < d.size) (hb : b < d.size) (hc : c < d.size) (hsw : sw ≤ 900) :
    AM Try.prog f_slices_medianOrdered_api_Addr [dS d.size cap, iI a, iI b, iI c, .lp 100001 0] (sC d tl sw) (iI (median ltInt d a b c sw).1) (sC d tl (median ltInt d a b c sw).2) := by
  refine am_slices_medianOrdered_api_Addr ?_ (by simp) (Nat.le_add_left 5 _)
  obtain ⟨h1, h2, h3⟩ := order2_lt (d := d) sw ha hb
  have c1 := C_order2 (cap := cap) ht ha hb (show sw ≤ 1000 by omega)
  generalize e1 : order2 ltInt d a b sw = r1 at h1 h2 h3 c1
  obtain ⟨h4, h5, h6⟩ := order2_lt (d := d) r1.2.2 h2 hc
  have c2 := C_order2 (cap := cap) ht h2 hc (show r1.2.2 ≤ 1000 by omega)
  generalize e2 : order2 ltInt d r1.2.1 c r1.2.2 = r2 at h4 h5 h6 c2
  have c3 := C_order2 (cap := cap) ht h1 h4 (show r2.2.2 ≤ 1000 by omega)
  have em : median ltInt d a b c sw = ((order2 ltInt d r1.1 r2.1 r2.2.2).2.1, (order2 ltInt d r1.1 r2.1 r2.2.2).2.2) := by
    rw [median, e1, e2]
  rw [em]
  generalize order2 ltInt d r1.1 r2.1 r2.2.2 = r3 at c3
  simp only [go_sem, Nat.reduceAdd, Nat.reduceLT, Nat.reduceEqDiff, Nat.reduceBEq, Nat.reduceLeDiff, Nat.reduceSub, Int.reduceToNat, reduceCtorEq, ↓reduceIte, env0M_mk, c_slices_medianOrdered_api_Addr, List.map_cons, List.map_nil]
  refine callS_of ht rfl c1 ?_
  simp only [go_sem, Nat.reduceAdd, Nat.reduceLT, Nat.reduceEqDiff, Nat.reduceBEq, Nat.reduceLeDiff, Nat.reduceSub, Int.reduceToNat, reduceCtorEq, ↓reduceIte]
  refine callS_of ht rfl c2 ?_
  simp only [go_sem, Nat.reduceAdd, Nat.reduceLT, Nat.reduceEqDiff, Nat.reduceBEq, Nat.reduceLeDiff, Nat.reduceSub, Int.reduceToNat, reduceCtorEq, ↓reduceIte]
  refine callS_of ht rfl c3 ?_
  simp only [go_sem, Nat.reduceAdd, Nat.reduceLT, Nat.reduceEqDiff, Nat.reduceBEq, Nat.reduceLeDiff, Nat.reduceSub, Int.reduceToNat, reduceCtorEq, ↓reduceIte, endM_n, endM_r]
  exact retC_sC ht _

theorem median_lt {d : Array Int} {a b c n : Nat} (sw : Nat) (ha : a < n) (hb : b < n) (hc : c < n) : (median ltInt d a b c sw).1 < n ∧ (median ltInt d a b c sw).2 ≤ sw + 3 := by
  obtain ⟨h1, h2, h3⟩ := order2_lt (d := d) sw ha hb
  obtain ⟨h4, h5, h6⟩ := order2_lt (d := d) (order2 ltInt d a b sw).2.2 h2 hc
  obtain ⟨h7, h8, h9⟩ := order2_lt (d := d) (order2 ltInt d (order2 ltInt d a b sw).2.1 c (order2 ltInt d a b sw).2.2).2.2 h1 h4
  simp only [median]
  exact ⟨h8, by omega⟩

theorem C_medianAdjacent {d : Array Int} {a sw cap : Nat} {tl : List AV} (ht : Tl tl) (h0 : 1 ≤ a) (ha : a + 1 < d.size) (hd : d.size ≤ 255) (hsw : sw ≤ 900) :
    AM Try.prog f_slices_medianAdjacentOrdered_api_Addr [dS d.size cap, iI a, .lp 100001 0] (sC d tl sw) (iI (medianAdjacent ltInt d a sw).1) (sC d tl (medianAdjacent ltInt d a sw).2) := by
  refine am_slices_medianAdjacentOrdered_api_Addr ?_ (by simp) (Nat.le_add_left 3 _)
  simp only [go_sem, Nat.reduceAdd, Nat.reduceLT, Nat.reduceEqDiff, Nat.reduceBEq, Nat.reduceLeDiff, Nat.reduceSub, Int.reduceToNat, reduceCtorEq, ↓reduceIte, env0M_mk, c_slices_medianAdjacentOrdered_api_Addr, List.map_cons, List.map_nil, iwn (a - 1) (by omega : (a : Int) - 1 = ((a - 1 : Nat) : Int)) (by omega), iwn (a + 1) (by omega : (a : Int) + 1 = ((a + 1 : Nat) : Int)) (by omega)]
  refine callS_of ht rfl (C_median (cap := cap) (a := a - 1) (b := a) (c := a + 1) ht (by omega) (by omega) (by omega) hsw) ?_
  simp only [go_sem, Nat.reduceAdd, Nat.reduceLT, Nat.reduceEqDiff, Nat.reduceBEq, Nat.reduceLeDiff, Nat.reduceSub, Int.reduceToNat, reduceCtorEq, ↓reduceIte, endM_n, endM_r]
  exact ⟨rfl, retC_sC ht _⟩

/-! ### choosePivot -/
def hintI : Hint → Int
  | .unknown => 0
  | .increasing => 1
  | .decreasing => 2
abbrev PM : List (Nat × Nat) := [(100000, 100000), (9, 100001)]
theorem back_pC (s : List (Nat × AV)) (x y : List AV) (p q : List AV) : backC PM [(100000, y), (100001, q)] (mkE s [(9, p), (100000, x)]) = mkE s [(9, q), (100000, y)] := by
  simp only [backC, mkE]
  congr 1
  funext c
  by_cases h : c = 100000
  · subst h; rfl
  · by_cases h2 : c = 9
    · subst h2; rfl
    · simp [lentAs, getC, h, h2]
theorem callP_of {P : Program} {dst : Option Nat} {os : List AOper} {s : List (Nat × AV)} {K : Env → Prop} {f : FuncId} {raw al : List AV} {args : Option (List AV)} {r : AV} {d : Array Int} {tl : List AV} {sw sw' : Nat} (ht : Tl tl)
    (hl : mapO (lowerM PM (getC [(9, [iI sw]), (100000, dC d tl)]) 8) raw = some al) (h : AM P f al (sC d tl sw) r (sC d tl sw'))
    (hk : awX false P os ((mkE s [(9, [iI sw']), (100000, dC d tl)]).putO dst (retag (dst.getD 0) (unlend PM r))) K) : callX false P dst os s [(9, [iI sw]), (100000, dC d tl)] K f raw args := by
  refine callM_of PM rfl hl ?_ h ?_
  · have e : closeV (iI sw) = some (iI sw) := rfl
    show mapO _ PM = _
    simp only [PM, mapO_cons, mapO_nil, getC_cons, ↓reduceIte, close_dC d ht, catO_some, show ((100000 : Nat) = 9) = False from by simp, e]
  · rw [back_pC]
    exact hk
theorem retC_pC {s : List (Nat × AV)} {d : Array Int} {tl : List AV} (ht : Tl tl) (x : List AV) : retC (mkE s [(9, x), (100000, dC d tl)]) [100000] = some [(100000, dC d tl)] := by
  simp only [retC, mapO_cons, mapO_nil, mkE_c, getC_cons, ↓reduceIte, ret_dC _ d ht, catO_some, show ((100000 : Nat) = 9) = False from by simp]

theorem C_choosePivot {d : Array Int} {a b cap : Nat} {tl : List AV} (ht : Tl tl) (hab : a + 12 < b) (hb : b ≤ d.size) (hd : d.size ≤ 255) :
    AM Try.prog f_slices_choosePivotOrdered_api_Addr [dS d.size cap, iI a, iI b] [(100000, dC d tl)] (.tup [iI (choosePivot ltInt d a b).1, .lit (.int .i64 (hintI (choosePivot ltInt d a b).2))]) [(100000, dC d tl)] := by
  refine am_slices_choosePivotOrdered_api_Addr ?_ (by simp) (Nat.le_add_left 3 _)
  have wl := iwn (b - a) (by omega : (b : Int) - (a : Int) = ((b - a : Nat) : Int)) (by omega)
  have wq : ((b - a : Nat) : Int).tdiv 4 = (((b - a) / 4 : Nat) : Int) := by
    rw [Int.tdiv_eq_ediv_of_nonneg (by omega)]
    omega
  have w2 : IntKind.i64.wrap (((b - a) / 4 : Nat) : Int) = (((b - a) / 4 : Nat) : Int) := iwn _ rfl (by omega)
  generalize hl : (b - a) / 4 = q at wq w2
  have hq : 3 ≤ q ∧ q ≤ 63 ∧ a + q * 4 ≤ b := by omega
  have m1 := iwn (q * 1) (by omega : (q : Int) * 1 = ((q * 1 : Nat) : Int)) (by omega)
  have m2 := iwn (q * 2) (by omega : (q : Int) * 2 = ((q * 2 : Nat) : Int)) (by omega)
  have m3 := iwn (q * 3) (by omega : (q : Int) * 3 = ((q * 3 : Nat) : Int)) (by omega)
  have a1 := iwn (a + q * 1) (by omega : (a : Int) + ((q * 1 : Nat) : Int) = ((a + q * 1 : Nat) : Int)) (by omega)
  have a2 := iwn (a + q * 2) (by omega : (a : Int) + ((q * 2 : Nat) : Int) = ((a + q * 2 : Nat) : Int)) (by omega)
  have a3 := iwn (a + q * 3) (by omega : (a : Int) + ((q * 3 : Nat) : Int) = ((a + q * 3 : Nat) : Int)) (by omega)
  have g1 : ((8 : Int) ≤ ((b - a : Nat) : Int)) = True := eq_true (by omega)
  simp only [go_sem, Nat.reduceAdd, Nat.reduceLT, Nat.reduceEqDiff, Nat.reduceBEq, Nat.reduceLeDiff, Nat.reduceSub, Int.reduceToNat, reduceCtorEq, ↓reduceIte, env0M_mk, c_slices_choosePivotOrdered_api_Addr, List.map_cons, List.map_nil, wl, wq, w2, m1, m2, m3, a1, a2, a3, g1, decide_true, show ((4 : Int) == 0) = false from rfl]
  have fin : ∀ (p sw : Nat), choosePivot ltInt d a b = (p, if sw = 0 then .increasing else if sw = 12 then .decreasing else .unknown) →
      (sw = 0 ∧ choosePivot ltInt d a b = (p, .increasing)) ∨ (sw ≠ 0 ∧ sw = 12 ∧ choosePivot ltInt d a b = (p, .decreasing)) ∨ (sw ≠ 0 ∧ sw ≠ 12 ∧ choosePivot ltInt d a b = (p, .unknown)) := by
    intro p sw e
    by_cases h : sw = 0
    · exact .inl ⟨h, by rw [e, if_pos h]⟩
    · by_cases h2 : sw = 12
      · exact .inr (.inl ⟨h, h2, by rw [e, if_neg h, if_pos h2]⟩)
      · exact .inr (.inr ⟨h, h2, by rw [e, if_neg h, if_neg h2]⟩)
  by_cases h50 : 50 ≤ b - a
  · have g2 : ((50 : Int) ≤ ((b - a : Nat) : Int)) = True := eq_true (by omega)
    have k1 := C_medianAdjacent (d := d) (cap := cap) (a := a + q * 1) (sw := 0) ht (by omega) (by omega) hd (by omega)
    have n1 := median_lt (d := d) (a := a + q * 1 - 1) (b := a + q * 1) (c := a + q * 1 + 1) (n := d.size) 0 (by omega) (by omega) (by omega)
    rw [show median ltInt d (a + q * 1 - 1) (a + q * 1) (a + q * 1 + 1) 0 = medianAdjacent ltInt d (a + q * 1) 0 from rfl] at n1
    generalize e1 : medianAdjacent ltInt d (a + q * 1) 0 = ri at k1 n1
    have k2 := C_medianAdjacent (d := d) (cap := cap) (a := a + q * 2) (sw := ri.2) ht (by omega) (by omega) hd (by omega)
    have n2 := median_lt (d := d) (a := a + q * 2 - 1) (b := a + q * 2) (c := a + q * 2 + 1) (n := d.size) ri.2 (by omega) (by omega) (by omega)
    rw [show median ltInt d (a + q * 2 - 1) (a + q * 2) (a + q * 2 + 1) ri.2 = medianAdjacent ltInt d (a + q * 2) ri.2 from rfl] at n2
    generalize e2 : medianAdjacent ltInt d (a + q * 2) ri.2 = rj at k2 n2
    have k3 := C_medianAdjacent (d := d) (cap := cap) (a := a + q * 3) (sw := rj.2) ht (by omega) (by omega) hd (by omega)
    have n3 := median_lt (d := d) (a := a + q * 3 - 1) (b := a + q * 3) (c := a + q * 3 + 1) (n := d.size) rj.2 (by omega) (by omega) (by omega)
    rw [show median ltInt d (a + q * 3 - 1) (a + q * 3) (a + q * 3 + 1) rj.2 = medianAdjacent ltInt d (a + q * 3) rj.2 from rfl] at n3
    generalize e3 : medianAdjacent ltInt d (a + q * 3) rj.2 = rk at k3 n3
    have k4 := C_median (d := d) (cap := cap) (a := ri.1) (b := rj.1) (c := rk.1) (sw := rk.2) ht n1.1 n2.1 n3.1 (by omega)
    have hcp : choosePivot ltInt d a b = ((median ltInt d ri.1 rj.1 rk.1 rk.2).1, if (median ltInt d ri.1 rj.1 rk.1 rk.2).2 = 0 then .increasing else if (median ltInt d ri.1 rj.1 rk.1 rk.2).2 = 12 then .decreasing else .unknown) := by
      simp only [choosePivot, hl, e1, e2, e3]
      rw [if_pos (by omega), if_pos (by omega)]
    generalize median ltInt d ri.1 rj.1 rk.1 rk.2 = r at k4 hcp
    simp only [go_sem, Nat.reduceAdd, Nat.reduceLT, Nat.reduceEqDiff, Nat.reduceBEq, Nat.reduceLeDiff, Nat.reduceSub, Int.reduceToNat, reduceCtorEq, ↓reduceIte, g2, decide_true]
    refine callP_of (sw := 0) ht rfl k1 ?_
    simp only [go_sem, Nat.reduceAdd, Nat.reduceLT, Nat.reduceEqDiff, Nat.reduceBEq, Nat.reduceLeDiff, Nat.reduceSub, Int.reduceToNat, reduceCtorEq, ↓reduceIte]
    refine callP_of ht rfl k2 ?_
    simp only [go_sem, Nat.reduceAdd, Nat.reduceLT, Nat.reduceEqDiff, Nat.reduceBEq, Nat.reduceLeDiff, Nat.reduceSub, Int.reduceToNat, reduceCtorEq, ↓reduceIte]
    refine callP_of ht rfl k3 ?_
    simp only [go_sem, Nat.reduceAdd, Nat.reduceLT, Nat.reduceEqDiff, Nat.reduceBEq, Nat.reduceLeDiff, Nat.reduceSub, Int.reduceToNat, reduceCtorEq, ↓reduceIte]
    refine callP_of ht rfl k4 ?_
    rcases fin r.1 r.2 hcp with ⟨h, e⟩ | ⟨h, h2, e⟩ | ⟨h, h2, e⟩
    · have f1 : (((r.2 : Nat) : Int) == 0) = true := by simp [h]
      simp only [go_sem, Nat.reduceAdd, Nat.reduceLT, Nat.reduceEqDiff, Nat.reduceBEq, Nat.reduceLeDiff, Nat.reduceSub, Int.reduceToNat, reduceCtorEq, ↓reduceIte, f1, endM_n, endM_r, e, hintI, retC_pC ht, and_self]
    · have f1 : (((r.2 : Nat) : Int) == 0) = false := by simp [h]
      have f2 : (((r.2 : Nat) : Int) == 12) = true := by simp [h2]
      simp only [go_sem, Nat.reduceAdd, Nat.reduceLT, Nat.reduceEqDiff, Nat.reduceBEq, Nat.reduceLeDiff, Nat.reduceSub, Int.reduceToNat, reduceCtorEq, ↓reduceIte, f1, f2, endM_n, endM_r, e, hintI, retC_pC ht, and_self]
    · have f1 : (((r.2 : Nat) : Int) == 0) = false := by simp [h]
      have f2 : (((r.2 : Nat) : Int) == 12) = false := by simp; omega
      simp only [go_sem, Nat.reduceAdd, Nat.reduceLT, Nat.reduceEqDiff, Nat.reduceBEq, Nat.reduceLeDiff, Nat.reduceSub, Int.reduceToNat, reduceCtorEq, ↓reduceIte, f1, f2, endM_n, endM_r, e, hintI, retC_pC ht, and_self]
  · have g2 : ((50 : Int) ≤ ((b - a : Nat) : Int)) = False := eq_false (by omega)
    have k4 := C_median (d := d) (cap := cap) (a := a + q * 1) (b := a + q * 2) (c := a + q * 3) (sw := 0) ht (by omega) (by omega) (by omega) (by omega)
    have hcp : choosePivot ltInt d a b = ((median ltInt d (a + q * 1) (a + q * 2) (a + q * 3) 0).1, if (median ltInt d (a + q * 1) (a + q * 2) (a + q * 3) 0).2 = 0 then .increasing else if (median ltInt d (a + q * 1) (a + q * 2) (a + q * 3) 0).2 = 12 then .decreasing else .unknown) := by
      simp only [choosePivot, hl]
      rw [if_pos (by omega), if_neg (by omega)]
    generalize median ltInt d (a + q * 1) (a + q * 2) (a + q * 3) 0 = r at k4 hcp
    simp only [go_sem, Nat.reduceAdd, Nat.reduceLT, Nat.reduceEqDiff, Nat.reduceBEq, Nat.reduceLeDiff, Nat.reduceSub, Int.reduceToNat, reduceCtorEq, ↓reduceIte, g2, decide_false]
    refine callP_of (sw := 0) ht rfl k4 ?_
    rcases fin r.1 r.2 hcp with ⟨h, e⟩ | ⟨h, h2, e⟩ | ⟨h, h2, e⟩
    · have f1 : (((r.2 : Nat) : Int) == 0) = true := by simp [h]
      simp only [go_sem, Nat.reduceAdd, Nat.reduceLT, Nat.reduceEqDiff, Nat.reduceBEq, Nat.reduceLeDiff, Nat.reduceSub, Int.reduceToNat, reduceCtorEq, ↓reduceIte, f1, endM_n, endM_r, e, hintI, retC_pC ht, and_self]
    · have f1 : (((r.2 : Nat) : Int) == 0) = false := by simp [h]
      have f2 : (((r.2 : Nat) : Int) == 12) = true := by simp [h2]
      simp only [go_sem, Nat.reduceAdd, Nat.reduceLT, Nat.reduceEqDiff, Nat.reduceBEq, Nat.reduceLeDiff, Nat.reduceSub, Int.reduceToNat, reduceCtorEq, ↓reduceIte, f1, f2, endM_n, endM_r, e, hintI, retC_pC ht, and_self]
    · have f1 : (((r.2 : Nat) : Int) == 0) = false := by simp [h]
      have f2 : (((r.2 : Nat) : Int) == 12) = false := by simp; omega
      simp only [go_sem, Nat.reduceAdd, Nat.reduceLT, Nat.reduceEqDiff, Nat.reduceBEq, Nat.reduceLeDiff, Nat.reduceSub, Int.reduceToNat, reduceCtorEq, ↓reduceIte, f1, f2, endM_n, endM_r, e, hintI, retC_pC ht, and_self]

end Go.Proofs.Ytmjmfollimaleaa.VL
