import Derived.Test.YtelbgkknneljeaaGreatDoorGa14
set_option linter.unusedVariables false
set_option linter.unusedSimpArgs false
section
set_option maxHeartbeats 4000000
namespace Go.Proofs.YtelbgkknneljeaaGreatDoor.VL
open Go.RowKit Go.Proofs
def wayV (q : Nat × Nat × Int) : AV := .agg [avI q.1, avU q.2.1, .lit (.int .i64 q.2.2)]
def way0 : AV := .agg [.lit (.int .i64 0), .lit (.int .u32 0), .lit (.int .i64 0)]
def lookV : Option (Nat × Nat × Int) → AV
  | some q => .tup [wayV q, .lit (.bool true)]
  | none => .tup [way0, .lit (.bool false)]
theorem resOK_look (q : Option (Nat × Nat × Int)) : resOK (lookV q) = true := by cases q <;> rfl
theorem bestR_snoc (w : NW) (j : Nat) : ∀ (l : List Nat) (b : Nat), bestR w (l ++ [j]) b = bestStep w (bestR w l b) j
  | [], b => rfl
  | i :: l, b => by
    simp only [List.cons_append, bestR]
    exact bestR_snoc w j l _
def roC (x : NRo) : List AV := [.lit (.int .i64 x.rt), avU x.a, .lit (.int .i64 x.b), avU x.via, .lit (.int .i64 x.cost)]
theorem roAt_of {w : NW} {i : Nat} {x : NRo} (hx : w.ros[i]? = some x) : roAt w i = x := by simp [roAt, hx]
theorem tailSl (i : Nat) (l : List Nat) : avSl 1 .none 1 ((i :: l).map avI) (some 1) (some ((((i :: l).map avI).length : Nat) : Int)) = some (.sl .none 1 (l.map avI)) := by
  rw [avSl_some 1 .none _ _ _ rfl (by simp; omega), Int.toNat_natCast, List.take_length]
  rfl
def atB (w : NW) (c : Int) (R : List Nat) : Bool := decide (0 ≤ c) && match R with
  | [] => true
  | i :: _ => decide ((roAt w i).b ≤ (pfxW w c.toNat).b)
theorem atB_eq (w : NW) (r : Int) (a : Nat) : atW w r a = atB w (conW w r a) (rouW w r a) := rfl
theorem lookN_at {w : NW} {r : Int} {n a : Nat} (h : atW w r a = true) : lookN w r n a = some ((conW w r a).toNat, 0, 0) := by
  rw [lookN.eq_def]
  simp only
  rw [if_pos h]
theorem lookN_nil {w : NW} {r : Int} {n a : Nat} (h : atW w r a = false) (hr : rouW w r a = []) : lookN w r n a = none := by
  rw [lookN.eq_def]
  simp only
  rw [if_neg (by rw [h]; simp), hr]
theorem lookN_zero {w : NW} {r : Int} {a i : Nat} {l : List Nat} (h : atW w r a = false) (hr : rouW w r a = i :: l) : lookN w r 0 a = none := by
  rw [lookN.eq_def]
  simp only
  rw [if_neg (by rw [h]; simp), hr]
theorem lookN_succ {w : NW} {r : Int} {n a i : Nat} {l : List Nat} (h : atW w r a = false) (hr : rouW w r a = i :: l) : lookN w r (n + 1) a = match lookN w r n (roAt w (bestR w l i)).via with
    | none => none
    | some (p, v, c) => some (p, if v = 0 then (roAt w (bestR w l i)).via else v, if c + (roAt w (bestR w l i)).cost ≤ 65535 then c + (roAt w (bestR w l i)).cost else 65535) := by
  rw [lookN.eq_def]
  simp only
  rw [if_neg (by rw [h]; simp), hr]
  rfl
theorem refN_at {w : NW} {r c : Int} {n v a : Nat} (h : atW w r a = true) : refN w r (n + 1) c v a = some ((conW w r a).toNat, v, if c ≤ 65535 then c else 65535) := by
  rw [refN, if_pos h]
theorem refN_nil {w : NW} {r c : Int} {n v a : Nat} (h : atW w r a = false) (hr : rouW w r a = []) : refN w r (n + 1) c v a = none := by
  rw [refN, if_neg (by rw [h]; simp), hr]
theorem refN_cons {w : NW} {r c : Int} {n v a i : Nat} {l : List Nat} (h : atW w r a = false) (hr : rouW w r a = i :: l) : refN w r (n + 1) c v a = refN w r n (c + (roAt w (bestR w l i)).cost) (roAt w (bestR w l i)).via (roAt w (bestR w l i)).via := by
  rw [refN, if_neg (by rw [h]; simp), hr]
theorem C_look1 (w : NW) (h : w.OK) (hf : w.Fit) (hv : vNet w = none) (r : Int) (n : Nat) (hn : n ≤ 6)
    (rec : ∀ m, n = m + 1 → ∀ a, a < 4294967296 → AC Tryz.prog f_q40 [.rp (topoV w), .lit (.int .i64 r), avU a, .lit (.int .i64 (6 - (m : Int)))] (lookV (lookN w r m a)))
    (a : Nat) (ha : a < 4294967296) : AC Tryz.prog f_q40 [.rp (topoV w), .lit (.int .i64 r), avU a, .lit (.int .i64 (6 - (n : Int)))] (lookV (lookN w r n a)) := by
  have hrI := fun x => avRow_some 1 .none (AV.lit x) rfl
  have hR1 : ∀ i, i ∈ rouW w r a → ∃ x, w.ros[i]? = some x := fun i => rouW_mem
  have hRl := rouW_len w r a
  have h4 := hf.l4
  have hcon : 0 ≤ conW w r a → ∃ p : Nat, conW w r a = (p : Int) ∧ p < w.pts.length := by
    intro h0
    rcases conS_ok w a (ofW w r) _ (Nat.le_refl _) with h2 | ⟨q, hq, h2, _⟩
    · simp only [conW, h2] at h0; omega
    · exact ⟨q, by simp only [conW, h2], of_mem hq⟩
  have hRo := C_Routes w h hf hv r a ha
  have hCo := C_Connected w h hf hv r a ha
  have hbest : ∀ i l, rouW w r a = i :: l → RouteOK w (roAt w (bestR w l i)) := fun i l e => best_ok hv e
  have hat := atB_eq w r a
  generalize hcE : conW w r a = c at *
  generalize hRE : rouW w r a = R at *
  simp only [avU] at hRo hCo
  refine ac_q40 ?_ (Nat.le_add_left 4 _) (resOK_look _)
  simp only [go_sem, c_q40, avU]
  refine callX_of (C_Raw w) ?_
  simp only [go_sem]
  refine callX_of hRo ?_
  simp only [go_sem]
  refine callX_of hCo ?_
  have k00 : (((0 : Nat) : Int) == 0) = true := rfl
  have z1 : ∀ p : Nat, con0 (p : Int) = (p : Int) := fun p => if_neg (by omega)
  have hd6 : ((6 - (n : Int)) == 6) = decide (n = 0) := by
    rw [Bool.eq_iff_iff]
    simp only [beq_iff_eq, decide_eq_true_eq]
    omega
  cases R with
  | nil =>
    by_cases h0 : 0 ≤ c
    · obtain ⟨p, rfl, hpl⟩ := hcon h0
      have g0 : (0 ≤ (p : Int)) = True := eq_true h0
      rw [lookN_at (by rw [hat]; simp [atB]), hcE]
      simp only [go_sem, g0, z1, k00, decide_true, List.length_nil, Int.toNat_natCast, lookV, wayV, avI, avU, Int.natCast_zero]
    · have g0 : (0 ≤ c) = False := eq_false h0
      rw [lookN_nil (by rw [hat]; simp [atB, h0]) hRE]
      simp only [go_sem, g0, k00, decide_false, List.length_nil, lookV, way0]
  | cons i l =>
    obtain ⟨x, hx⟩ := hR1 i (by simp)
    have hxi := roAt_of hx
    have hb := hbest i l rfl
    have kl : (((l.length + 1 : Nat) : Int) == 0) = false := by simp; omega
    simp only [atB, hxi] at hat
    have hvia : ∀ b, b = bestR w l i → (roAt w b).via < 4294967296 := by
      rintro b rfl
      have hm : bestR w l i ∈ i :: l := by
        rcases bestR_mem w l i with h | h
        · rw [h]; simp
        · simp [h]
      obtain ⟨x3, hx3⟩ := hR1 _ hm
      rw [roAt_of hx3]
      exact h.rov x3 (List.mem_of_getElem? hx3)
    have h3 : (∃ (p : Nat) (x2 : NPt) (k2 : Nat) (y2 : NLk), c = (p : Int) ∧ w.pts[p]? = some x2 ∧ x2.lk = (k2 : Int) ∧ w.lks[k2]? = some y2 ∧ pfxW w p = y2 ∧ x.b ≤ y2.b) ∨
        (∃ (p : Nat) (x2 : NPt) (k2 : Nat) (y2 : NLk), c = (p : Int) ∧ w.pts[p]? = some x2 ∧ x2.lk = (k2 : Int) ∧ w.lks[k2]? = some y2 ∧ pfxW w p = y2 ∧ ¬ x.b ≤ y2.b) ∨ ¬ 0 ≤ c := by
      by_cases h0 : 0 ≤ c
      · obtain ⟨p, rfl, hpl⟩ := hcon h0
        obtain ⟨x2, hx2⟩ : ∃ y, w.pts[p]? = some y := ⟨w.pts[p], List.getElem?_eq_getElem hpl⟩
        obtain ⟨k2, y2, hk2, hy2, hpf⟩ := pfx_of hv hx2
        by_cases hge : x.b ≤ y2.b
        · exact .inl ⟨p, x2, k2, y2, rfl, hx2, hk2, hy2, hpf, hge⟩
        · exact .inr (.inl ⟨p, x2, k2, y2, rfl, hx2, hk2, hy2, hpf, hge⟩)
      · exact .inr (.inr h0)
    rcases h3 with ⟨p, x2, k2, y2, rfl, hx2, hk2, hy2, hpf, hge⟩ | ⟨p, x2, k2, y2, rfl, hx2, hk2, hy2, hpf, hge⟩ | h0
    · have g0 : (0 ≤ (p : Int)) = True := eq_true (by omega)
      rw [Int.toNat_natCast, hpf] at hat
      have g1 : (x.b ≤ y2.b) = True := eq_true hge
      have g2 : (y2.b ≥ x.b) = True := eq_true hge
      rw [lookN_at (by rw [hat]; simp [hge]), hcE]
      simp only [go_sem, g0, z1, kl, g1, g2, decide_true, netV, Int.natCast_nonneg, Int.toNat_natCast, Int.toNat_zero, Int.le_refl, List.length_cons, List.length_map, List.getElem?_map, List.getElem?_cons_zero, hx, hx2, hk2, hy2, hrI, Option.map_some, rowAgg, avPort, avLink, avRoute, avStr, avU, avI, lookV, wayV, Int.natCast_zero]
    have g0 : (0 ≤ (p : Int)) = True := eq_true (by omega)
    rw [Int.toNat_natCast, hpf] at hat
    have g1 : (x.b ≤ y2.b) = False := eq_false hge
    have hat0 : atW w r a = false := by rw [hat]; simp [hge]
    have g2 : (y2.b ≥ x.b) = False := eq_false hge
    simp only [go_sem, g0, z1, kl, hd6, g1, g2, decide_true, decide_false, netV, Int.natCast_nonneg, Int.toNat_natCast, Int.toNat_zero, Int.le_refl, List.length_cons, List.length_map, List.getElem?_map, List.getElem?_cons_zero, hx, hx2, hk2, hy2, hrI, Option.map_some, rowAgg, avPort, avLink, avRoute, avStr, avU, avI]
    rotate_left
    have g0 : (0 ≤ c) = False := eq_false h0
    have hat0 : atW w r a = false := by rw [hat]; simp [h0]
    simp only [go_sem, g0, kl, hd6, decide_false, List.length_cons, List.length_map]
    rotate_left
    all_goals
      rcases n with _ | n
      · rw [lookN_zero hat0 hRE]
        simp only [go_sem, lookV, way0]
      rw [lookN_succ hat0 hRE]
      have hn0 : (n + 1 = 0) = False := eq_false (by omega)
      have hts := tailSl i l
      simp only [List.length_map, List.length_cons, List.map_cons, avI] at hts
      simp only [go_sem, hn0, decide_false, netV, Int.natCast_nonneg, Int.toNat_natCast, Int.toNat_zero, Int.le_refl, List.length_cons, List.length_map, List.getElem?_map, List.getElem?_cons_zero, List.map_cons, hx, hrI, Option.map_some, rowAgg, avRoute, avU, avI, hts]
      refine aw_loop (fun m E => ∃ k : Nat, k + m = l.length ∧ E = mkE [(0, .rp (topoV w)), (1, .lit (.int .i64 r)), (3, .lit (.int .i64 (6 - ((n + 1 : Nat) : Int)))), (8, .lp 8 0), (10, .rp (netV w)), (14, .lp 14 0), (88, .sl .none 1 (l.map avI)), (89, .lit (.int .i64 (l.length : Nat))), (90, .lit (.int .i64 (k : Nat)))] [(8, [.lit (.int .i64 0), .lit (.int .u32 0), .lit (.int .i64 0)]), (14, roC (roAt w (bestR w (l.take k) i)))]) l.length ?_ ?_
      · exact ⟨0, by omega, by rw [List.take_zero]; simp only [bestR, hxi]; rfl⟩
      · rintro m _ ⟨k, hk, rfl⟩
        by_cases hkl : k < l.length
        · have f1 : ((k : Int) < (l.length : Int)) = True := eq_true (by omega)
          have hw := wrap_succ k (by simp only [List.length_cons] at hRl; omega)
          obtain ⟨j, hj⟩ : ∃ j, l[k]? = some j := ⟨l[k], List.getElem?_eq_getElem hkl⟩
          obtain ⟨xj, hxj⟩ := hR1 j (List.mem_cons_of_mem _ (List.mem_of_getElem? hj))
          have e1 : bestR w (l.take (k + 1)) i = bestStep w (bestR w (l.take k) i) j := by
            rw [List.take_add_one, hj, Option.toList_some, bestR_snoc]
          simp only [bestStep, roAt_of hxj] at e1
          generalize bestR w (l.take k) i = b at *
          by_cases hlt : xj.cost < (roAt w b).cost
          · have g3 : (xj.cost < (roAt w b).cost) = True := eq_true hlt
            rw [if_pos hlt] at e1
            simp only [go_sem, f1, g3, roC, netV, decide_true, Int.natCast_nonneg, Int.toNat_natCast, List.getElem?_map, hj, hxj, hrI, Option.map_some, rowAgg, avRoute, avU, avI, hw]
            exact ⟨m - 1, by omega, k + 1, by omega, by rw [e1, roAt_of hxj]⟩
          · have g3 : (xj.cost < (roAt w b).cost) = False := eq_false hlt
            rw [if_neg hlt] at e1
            simp only [go_sem, f1, g3, roC, netV, decide_true, decide_false, Int.natCast_nonneg, Int.toNat_natCast, List.getElem?_map, hj, hxj, hrI, Option.map_some, rowAgg, avRoute, avU, avI, hw]
            exact ⟨m - 1, by omega, k + 1, by omega, by rw [e1]⟩
        · have f1 : ((k : Int) < (l.length : Int)) = False := eq_false (by omega)
          rw [List.take_of_length_le (by omega)]
          have hva := hvia _ rfl
          generalize roAt w (bestR w l i) = x0 at *
          have hrec := rec n rfl x0.via hva
          have hwd : IntKind.wrap .i64 (6 - ((n + 1 : Nat) : Int) + 1) = 6 - (n : Int) := by
            rw [iw _ (by omega) (by omega)]
            omega
          simp only [avU] at hrec
          simp only [go_sem, f1, roC, avU, decide_false, hwd]
          refine callX_of hrec ?_
          cases hl : lookN w r n x0.via with
          | none => simp only [go_sem, lookV, way0]
          | some q =>
            obtain ⟨p', v', c'⟩ := q
            have hcc := lookN_cost hv r n x0.via p' v' c' hl
            have hb0 := hb.c0
            have hb1 := hb.c1
            have hwc : IntKind.wrap .i64 (c' + x0.cost) = c' + x0.cost := iw _ (by omega) (by omega)
            have emin : (if 65535 < c' + x0.cost then (65535 : Int) else c' + x0.cost) = if c' + x0.cost ≤ 65535 then c' + x0.cost else 65535 := by
              split <;> split <;> omega
            cases hv0 : v' == 0
            · have e0 : ¬ v' = 0 := by simpa using hv0
              have b0 : ((v' : Int) == 0) = false := by simp; omega
              simp only [go_sem, lookV, wayV, avI, avU, b0, hwc, avMm_min', emin, if_neg e0]
            · have e0 : v' = 0 := by simpa using hv0
              subst e0
              have b0 : (((0 : Nat) : Int) == 0) = true := rfl
              simp only [go_sem, lookV, wayV, avI, avU, b0, hwc, avMm_min', emin, if_true]
theorem C_look (w : NW) (h : w.OK) (hf : w.Fit) (hv : vNet w = none) (r : Int) : ∀ (n a : Nat), n ≤ 6 → a < 4294967296 → AC Tryz.prog f_q40 [.rp (topoV w), .lit (.int .i64 r), avU a, .lit (.int .i64 (6 - (n : Int)))] (lookV (lookN w r n a))
  | 0, a, hn, ha => C_look1 w h hf hv r 0 hn (fun m hm => by omega) a ha
  | n + 1, a, hn, ha => C_look1 w h hf hv r (n + 1) hn (fun m hm a ha => by
    obtain rfl : n = m := by omega
    exact C_look w h hf hv r n a (by omega) ha) a ha
theorem C_Look (w : NW) (h : w.OK) (hf : w.Fit) (hv : vNet w = none) (r : Int) (a : Nat) (ha : a < 4294967296) : AC Tryz.prog f_q10 [.rp (topoV w), .lit (.int .i64 r), avU a] (lookV (lookN w r 6 a)) := by
  refine ac_q10 ?_ (Nat.le_add_left 3 _) (resOK_look _)
  have hL := C_look w h hf hv r 6 a (by decide) ha
  rw [show (6 - ((6 : Nat) : Int)) = 0 from rfl] at hL
  simp only [go_sem, c_q10, avU]
  refine callX_of hL ?_
  cases lookN w r 6 a with
  | none => simp only [go_sem, lookV, way0]
  | some q => simp only [go_sem, lookV, wayV, avI, avU]
end Go.Proofs.YtelbgkknneljeaaGreatDoor.VL
end

section
set_option maxHeartbeats 4000000
namespace Go.Proofs.YtelbgkknneljeaaGreatDoor.VL
open Go.RowKit Go.Proofs
def ofZ (w : NW) (i : Int) (j : Nat) : Bool := match w.pts[j]? with | some p => p.rt == i | none => false
theorem ofZ_eq {w : NW} (hv : vNet w = none) (i : Int) : idxK (ofZ w i) w.pts.length = ofW w i := by
  simp only [ofW, atF]
  by_cases h : 0 ≤ i ∧ i < (w.rts.length : Int)
  · rw [if_pos h]
    have e : ofZ w i = ofQ w i.toNat := by
      funext j
      simp only [ofZ, ofQ]
      cases w.pts[j]? with
      | none => rfl
      | some p => simp only; rw [show ((i.toNat : Nat) : Int) = i by omega]
    rw [e]
  · rw [if_neg h]
    refine List.eq_nil_iff_forall_not_mem.2 fun j hj => ?_
    rw [mem_idx] at hj
    obtain ⟨hj, hq⟩ := hj
    have hx : w.pts[j]? = some w.pts[j] := List.getElem?_eq_getElem hj
    obtain ⟨k, hk, hkl⟩ := (portOK hv hx).rt
    simp only [ofZ, hx, beq_iff_eq] at hq
    omega
def RF (w : NW) (k : Int) (i : Nat) : Env := mkE [(1, .lit (.int .i64 k)), (2, .lp 2 0), (5, rowO [25] 1 ((idxK (ofZ w k) i).map avI)), (6, .lit (.int .i64 (i : Nat)))] [(2, netV w)]
theorem C_rOf (w : NW) (hf : w.Fit) (k : Int) : AC Tryz.prog f_q38 [.agg (netV w), .lit (.int .i64 k)] (.sl .none 1 ((idxK (ofZ w k) w.pts.length).map avI)) := by
  have h3 := hf.l3
  refine AC_weak (ac_q38 (r := rowO [25] 1 ((idxK (ofZ w k) w.pts.length).map avI)) ?_ (Nat.le_add_left 2 _) (resOK_rowO _ _ _)) (wk_rowO _ _ _)
  simp only [go_sem, c_q38, one_net, len_net, take_net, Nat.le_refl]
  refine aw_loop (fun m E => ∃ i : Nat, i + m = w.pts.length ∧ E = RF w k i) w.pts.length ?_ ?_
  · exact ⟨0, by omega, rfl⟩
  · rintro m _ ⟨i, him, rfl⟩
    by_cases hil : i < w.pts.length
    · have f1 : ((i : Int) < (w.pts.length : Int)) = True := eq_true (by omega)
      have hw := wrap_succ i (by omega)
      obtain ⟨x, hx⟩ : ∃ x, w.pts[i]? = some x := ⟨w.pts[i], List.getElem?_eq_getElem hil⟩
      have e1 : idxK (ofZ w k) (i + 1) = if (x.rt == k) = true then idxK (ofZ w k) i ++ [i] else idxK (ofZ w k) i := by
        rw [idxK_succ]
        simp only [ofZ, hx]
      have hR : ((idxK (ofZ w k) i).map avI).length ≤ 4294967295 := by
        have := idxK_len (ofZ w k) i
        rw [List.length_map]
        omega
      cases hp : x.rt == k
      · rw [hp] at e1
        simp only [Bool.false_eq_true, if_false] at e1
        simp only [RF]
        simp only [go_sem, netV, List.length_map, f1, decide_true, Int.natCast_nonneg, Int.toNat_natCast, List.getElem?_map, hx, Option.map_some, rowAgg, avPort, avU, hp, hw]
        exact ⟨m - 1, by omega, i + 1, by omega, by simp only [RF, e1, netV]⟩
      · rw [hp] at e1
        simp only [if_true] at e1
        have e2 : (idxK (ofZ w k) (i + 1)).map avI = (idxK (ofZ w k) i).map avI ++ [.lit (.int .i64 (i : Nat))] := by rw [e1, List.map_append]; rfl
        simp only [RF]
        generalize (idxK (ofZ w k) i).map avI = R at *
        cases R with
        | nil =>
          have ea : ∀ s c, avApp 1 8 [] 25 s c (.sl .nil 0 []) (.sl (.own [24]) 1 [.lit (.int .i64 (i : Nat))]) = _ := fun s c => avApp_nil (d := 25) (s := s) (c := c) 1 8 0 [] [] [.lit (.int .i64 (i : Nat))] (.own [24]) (by simp) (by decide)
          simp only [go_sem, rowO_nil, netV, List.length_map, f1, decide_true, Int.natCast_nonneg, Int.toNat_natCast, List.getElem?_map, hx, Option.map_some, rowAgg, avPort, avU, hp, hw, ea]
          exact ⟨m - 1, by omega, i + 1, by omega, by simp only [RF, e2, netV]; rfl⟩
        | cons z zs =>
          have ea : ∀ s c, avApp 1 8 [] 25 s c (.sl (.own [25]) 1 (z :: zs)) (.sl (.own [24]) 1 [.lit (.int .i64 (i : Nat))]) = _ := fun s c => avApp_own (d := 25) (s := s) (c := c) 1 8 [] [25] (z :: zs) [.lit (.int .i64 (i : Nat))] (.own [24]) (by simp at hR ⊢; omega) (by decide) rfl
          simp only [go_sem, rowO_cons, netV, List.length_map, f1, decide_true, Int.natCast_nonneg, Int.toNat_natCast, List.getElem?_map, hx, Option.map_some, rowAgg, avPort, avU, hp, hw, ea]
          exact ⟨m - 1, by omega, i + 1, by omega, by simp only [RF, e2, netV]; rfl⟩
    · have f1 : ((i : Int) < (w.pts.length : Int)) = False := eq_false (by omega)
      have e : i = w.pts.length := by omega
      subst e
      simp only [RF]
      generalize (idxK (ofZ w k) w.pts.length).map avI = R
      cases R with
      | nil => simp only [go_sem, rowO_nil, netV, List.length_map, f1, decide_false]
      | cons z zs => simp only [go_sem, rowO_cons, netV, List.length_map, f1, decide_false]
theorem C_rConnected (w : NW) (h : w.OK) (hf : w.Fit) (hv : vNet w = none) (r : Int) (a : Nat) (ha : a < 4294967296) : AC Tryz.prog f_q9 [.agg (netV w), .lit (.int .i64 r), avU a] (.lit (.int .i64 (conW w r a))) := by
  refine ac_q9 ?_ (Nat.le_add_left 3 _)
  simp only [go_sem, c_q9, low_net, one_net, len_net, take_net, Nat.le_refl, avU]
  have hOf := C_rOf w hf r
  rw [ofZ_eq hv] at hOf
  refine callX_of hOf ?_
  have hm := fun p (hp : p ∈ ofW w r) => of_mem hp
  have hlen := ofW_len w r
  have h3 := hf.l3
  simp only [go_sem]
  unfold conW
  generalize ofW w r = L at *
  refine aw_loop (fun m E => ∃ i : Nat, i + m = L.length ∧ E = mkE [(2, avU a), (3, .lp 3 0), (7, .lit (.int .i64 (conS w a L i).1)), (8, .sl .none 1 (L.map avI)), (9, .lit (.int .i64 (i : Nat)))] [(3, netV w)]) L.length ?_ ?_
  · exact ⟨0, by omega, rfl⟩
  · rintro m _ ⟨i, him, rfl⟩
    have hrI := fun x => avRow_some 1 .none (AV.lit x) rfl
    by_cases hil : i < L.length
    · have f1 : ((i : Int) < (L.length : Int)) = True := eq_true (by omega)
      have hw := wrap_succ i (by omega)
      obtain ⟨p, hp⟩ : ∃ p, L[i]? = some p := ⟨L[i], List.getElem?_eq_getElem hil⟩
      have hpl := hm p (List.mem_of_getElem? hp)
      obtain ⟨x, hx⟩ : ∃ x, w.pts[p]? = some x := ⟨w.pts[p], List.getElem?_eq_getElem hpl⟩
      obtain ⟨k, y, hk, hy, hpf⟩ := pfx_of hv hx
      have hs := conS_succ (w := w) (a := a) hp
      rw [conStep, hpf] at hs
      have hI := C_rIn y.a y.b a (h.lka y (List.mem_of_getElem? hy)) ha
      have hok := conS_ok w a L i (by omega)
      generalize conS w a L i = S at *
      simp only [avPfx, avU] at hI
      simp only [go_sem, avI, avU, f1, netV, List.length_map, decide_true, Int.natCast_nonneg, Int.toNat_natCast, List.getElem?_map, hp, hx, hk, hy, hrI, Option.map_some, rowAgg, avPort, avLink, avStr]
      refine callX_of hI ?_
      cases hin : inN y.a y.b a
      · rw [hin] at hs
        simp only [go_sem, hw]
        exact ⟨m - 1, by omega, i + 1, by omega, by rw [hs]; rfl⟩
      · rw [hin] at hs
        rcases hok with rfl | ⟨q, hq, rfl, hqb⟩
        · have n1 : ((-1 : Int) < 0) = True := eq_true (by decide)
          have hyb : (-1 : Int) < y.b := by
            simp only [inN, Bool.and_eq_true] at hin
            have := (validN_bounds hin.1).1
            omega
          simp only [hyb, decide_true, Bool.and_self, if_true] at hs
          simp only [go_sem, n1, netV, List.length_map, decide_true, Int.natCast_nonneg, Int.toNat_natCast, List.getElem?_map, hp, hrI, Option.map_some, avI, hw]
          exact ⟨m - 1, by omega, i + 1, by omega, by rw [hs]⟩
        · obtain ⟨x2, hx2⟩ : ∃ x, w.pts[q]? = some x := ⟨w.pts[q]'(hm q hq), List.getElem?_eq_getElem (hm q hq)⟩
          obtain ⟨k2, y2, hk2, hy2, hpf2⟩ := pfx_of hv hx2
          rw [hpf2] at hs
          have n1 : ((q : Int) < 0) = False := eq_false (by omega)
          by_cases hlt : y2.b < y.b
          · have g1 : (y2.b < y.b) = True := eq_true hlt
            have g2 : (y.b > y2.b) = True := eq_true hlt
            simp only [g1, decide_true, Bool.and_self, if_true] at hs
            simp only [go_sem, n1, g1, g2, netV, List.length_map, decide_true, decide_false, Int.natCast_nonneg, Int.toNat_natCast, List.getElem?_map, hp, hx2, hk2, hy2, hrI, Option.map_some, rowAgg, avPort, avLink, avStr, avU, avI, hw]
            exact ⟨m - 1, by omega, i + 1, by omega, by rw [hs]⟩
          · have g1 : (y2.b < y.b) = False := eq_false hlt
            have g2 : (y.b > y2.b) = False := eq_false hlt
            simp only [g1, decide_false, Bool.and_false, Bool.false_eq_true, if_false] at hs
            simp only [go_sem, n1, g1, g2, netV, List.length_map, decide_true, decide_false, Int.natCast_nonneg, Int.toNat_natCast, List.getElem?_map, hp, hx2, hk2, hy2, hrI, Option.map_some, rowAgg, avPort, avLink, avStr, avU, avI, hw]
            exact ⟨m - 1, by omega, i + 1, by omega, by rw [hs]⟩
    · have f1 : ((i : Int) < (L.length : Int)) = False := eq_false (by omega)
      have e : i = L.length := by omega
      subst e
      simp only [go_sem, List.length_map, f1, decide_false]
def RR (w : NW) (r : Int) (a i : Nat) : Env := mkE [(1, .lit (.int .i64 r)), (2, avU a), (3, .lp 3 0), (7, .lit (.int .i64 (rouS w r a i).1)), (8, rowO [52] 1 ((rouS w r a i).2.map avI)), (9, .lit (.int .i64 (i : Nat)))] [(3, netV w)]
theorem C_rRoutes (w : NW) (h : w.OK) (hf : w.Fit) (r : Int) (a : Nat) (ha : a < 4294967296) : AC Tryz.prog f_q14 [.agg (netV w), .lit (.int .i64 r), avU a] (.sl .none 1 ((rouW w r a).map avI)) := by
  have h4 := hf.l4
  refine AC_weak (ac_q14 (r := rowO [52] 1 ((rouW w r a).map avI)) ?_ (Nat.le_add_left 3 _) (resOK_rowO _ _ _)) (wk_rowO _ _ _)
  simp only [go_sem, c_q14, one_net, len_net, take_net, Nat.le_refl, avU]
  refine aw_loop (fun m E => ∃ i : Nat, i + m = w.ros.length ∧ E = RR w r a i) w.ros.length ?_ ?_
  · exact ⟨0, by omega, rfl⟩
  · rintro m _ ⟨i, him, rfl⟩
    by_cases hil : i < w.ros.length
    · have f1 : ((i : Int) < (w.ros.length : Int)) = True := eq_true (by omega)
      have hw := wrap_succ i (by omega)
      obtain ⟨x, hx⟩ : ∃ x, w.ros[i]? = some x := ⟨w.ros[i], List.getElem?_eq_getElem hil⟩
      have hs := rouS_succ w r a i
      rw [rouStep, hx] at hs
      simp only at hs
      have hI := C_rIn x.a x.b a (h.roa x (List.mem_of_getElem? hx)) ha
      have hl := (rouS_ok w r a i (by omega)).2
      have same : ∀ (E : Env), rouS w r a (i + 1) = rouS w r a i → E = mkE [(1, .lit (.int .i64 r)), (2, avU a), (3, .lp 3 0), (7, .lit (.int .i64 (rouS w r a i).1)), (8, rowO [52] 1 ((rouS w r a i).2.map avI)), (9, .lit (.int .i64 (i + 1 : Nat)))] [(3, netV w)] → ∃ k, k < m ∧ ∃ i : Nat, i + k = w.ros.length ∧ E = RR w r a i := by
        rintro E e1 rfl
        exact ⟨m - 1, by omega, i + 1, by omega, by simp only [RR, e1]⟩
      have put : ∀ (E : Env) (b : Int) (l : List Nat), rouS w r a (i + 1) = (b, l) → E = mkE [(1, .lit (.int .i64 r)), (2, avU a), (3, .lp 3 0), (7, .lit (.int .i64 b)), (8, rowO [52] 1 (l.map avI)), (9, .lit (.int .i64 (i + 1 : Nat)))] [(3, netV w)] → ∃ k, k < m ∧ ∃ i : Nat, i + k = w.ros.length ∧ E = RR w r a i := by
        rintro E b l e1 rfl
        exact ⟨m - 1, by omega, i + 1, by omega, by simp only [RR, e1]⟩
      simp only [RR]
      generalize rouS w r a i = S at *
      simp only [avPfx, avU] at hI
      have hk8 : ∀ n, kill n (rowO [52] 1 (S.2.map avI)) = rowO [52] 1 (S.2.map avI) := fun n => kill_rowO n _ _ _
      generalize hR : rowO [52] 1 (S.2.map avI) = R8 at same hk8 ⊢
      cases hr : x.rt == r
      · have hn : (x.rt != r) = true := by rw [bne, hr]; rfl
        rw [hr] at hs
        simp only [Bool.not_false, Bool.true_or, if_true] at hs
        simp only [go_sem, avU, f1, netV, List.length_map, decide_true, Int.natCast_nonneg, Int.toNat_natCast, List.getElem?_map, hx, Option.map_some, rowAgg, avRoute, hn, hk8, hw]
        exact same _ hs rfl
      · have hn : (x.rt != r) = false := by rw [bne, hr]; rfl
        rw [hr] at hs
        simp only [go_sem, avU, f1, netV, List.length_map, decide_true, decide_false, Int.natCast_nonneg, Int.toNat_natCast, List.getElem?_map, hx, Option.map_some, rowAgg, avRoute, hn, hk8]
        refine callX_of hI ?_
        cases hin : inN x.a x.b a
        · rw [hin] at hs
          simp only [Bool.not_false, Bool.or_true, if_true] at hs
          simp only [go_sem, hk8, hw]
          exact same _ hs rfl
        · rw [hin] at hs
          by_cases hb : x.b < S.1
          · have g1 : (x.b < S.1) = True := eq_true hb
            simp only [g1, decide_true, Bool.not_true, Bool.true_or, Bool.or_true, if_true] at hs
            simp only [go_sem, g1, hk8, decide_true, hw]
            exact same _ hs rfl
          · have g1 : (x.b < S.1) = False := eq_false hb
            simp only [g1, decide_false, Bool.not_true, Bool.or_false, Bool.false_eq_true, if_false] at hs
            by_cases hlt : S.1 < x.b
            · have g2 : (S.1 < x.b) = True := eq_true hlt
              have g3 : (x.b > S.1) = True := eq_true hlt
              rw [if_pos hlt] at hs
              have ea : ∀ s c, avApp 1 8 [] 52 s c (.sl .nil 0 []) (.sl (.own [51]) 1 [.lit (.int .i64 (i : Nat))]) = _ := fun s c => avApp_nil (d := 52) (s := s) (c := c) 1 8 0 [] [] [.lit (.int .i64 (i : Nat))] (.own [51]) (by simp) (by decide)
              simp only [go_sem, g1, g2, g3, decide_true, decide_false, ea, hw]
              exact put _ _ _ hs rfl
            · have g2 : (S.1 < x.b) = False := eq_false hlt
              have g3 : (x.b > S.1) = False := eq_false hlt
              rw [if_neg hlt] at hs
              have hRl : (S.2.map avI).length ≤ 4294967295 := by rw [List.length_map]; omega
              have e2 : (S.2 ++ [i]).map avI = S.2.map avI ++ [.lit (.int .i64 (i : Nat))] := by rw [List.map_append]; rfl
              have put2 := fun E => put E _ _ hs
              rw [e2] at put2
              subst hR
              generalize S.2.map avI = R at *
              cases R with
              | nil =>
                have ea : ∀ s c, avApp 1 8 [] 52 s c (.sl .nil 0 []) (.sl (.own [51]) 1 [.lit (.int .i64 (i : Nat))]) = _ := fun s c => avApp_nil (d := 52) (s := s) (c := c) 1 8 0 [] [] [.lit (.int .i64 (i : Nat))] (.own [51]) (by simp) (by decide)
                simp only [go_sem, rowO_nil, g1, g2, g3, decide_false, ea, hw]
                exact put2 _ rfl
              | cons z zs =>
                have ea : ∀ s c, avApp 1 8 [] 52 s c (.sl (.own [52]) 1 (z :: zs)) (.sl (.own [51]) 1 [.lit (.int .i64 (i : Nat))]) = _ := fun s c => avApp_own (d := 52) (s := s) (c := c) 1 8 [] [52] (z :: zs) [.lit (.int .i64 (i : Nat))] (.own [51]) (by simp at hRl ⊢; omega) (by decide) rfl
                simp only [go_sem, rowO_cons, g1, g2, g3, decide_false, ea, hw]
                exact put2 _ rfl
    · have f1 : ((i : Int) < (w.ros.length : Int)) = False := eq_false (by omega)
      have e : i = w.ros.length := by omega
      subst e
      simp only [RR, rouW]
      generalize (rouS w r a w.ros.length).2.map avI = R
      cases R with
      | nil => simp only [go_sem, rowO_nil, netV, List.length_map, f1, decide_false]
      | cons z zs => simp only [go_sem, rowO_cons, netV, List.length_map, f1, decide_false]
end Go.Proofs.YtelbgkknneljeaaGreatDoor.VL
end

section
set_option maxHeartbeats 4000000
namespace Go.Proofs.YtelbgkknneljeaaGreatDoor.VL
open Go.RowKit Go.Proofs
def QE (w : NW) (r c : Int) (v a d : Nat) : Env := mkE [(1, .lit (.int .i64 r)), (2, avU a), (3, .lp 3 0), (6, .lp 6 0), (8, .lit (.int .i64 c)), (9, avU v), (10, .lit (.int .i64 (d : Nat)))] [(3, netV w), (6, [.lit (.int .i64 0), .lit (.int .u32 0), .lit (.int .i64 0)])]
theorem ref_look {w : NW} (hv : vNet w = none) (r : Int) (a : Nat) : refN w r 7 0 0 a = lookN w r 6 a := by
  rw [refN_look hv r 6 0 0 a (Int.le_refl 0)]
  cases hl : lookN w r 6 a with
  | none => rfl
  | some q =>
    obtain ⟨p, v, c⟩ := q
    have hc := lookN_cost hv r 6 a p v c hl
    simp only [Option.map_some, Option.some.injEq, Prod.mk.injEq, true_and]
    refine ⟨?_, ?_⟩
    · split <;> omega
    · rw [if_pos (by omega)]
      omega
theorem C_rLook (w : NW) (h : w.OK) (hf : w.Fit) (hv : vNet w = none) (r : Int) (a0 : Nat) (ha0 : a0 < 4294967296) : AC Tryz.prog f_q11 [.agg (netV w), .lit (.int .i64 r), avU a0] (lookV (lookN w r 6 a0)) := by
  rw [← ref_look hv]
  refine ac_q11 ?_ (Nat.le_add_left 3 _) (resOK_look _)
  simp only [go_sem, c_q11, one_net, len_net, take_net, Nat.le_refl, avU]
  generalize hT : refN w r 7 0 0 a0 = T
  refine aw_loop (fun m E => ∃ (d : Nat) (c : Int) (v a : Nat), d + m = 7 ∧ refN w r (7 - d) c v a = T ∧ 0 ≤ c ∧ c ≤ (d : Int) * 65535 ∧ a < 4294967296 ∧ E = QE w r c v a d) 7 ?_ ?_
  · exact ⟨0, 0, 0, a0, rfl, hT, by decide, by decide, ha0, rfl⟩
  · rintro m _ ⟨d, c, v, a, hdm, hT, hc0, hc1, ha, rfl⟩
    have hrI := fun x => avRow_some 1 .none (AV.lit x) rfl
    by_cases hd : d < 7
    · have f1 : ((d : Int) ≤ 6) = True := eq_true (by omega)
      have hw := wrap_succ d (by omega)
      obtain ⟨n, hn⟩ : ∃ n, 7 - d = n + 1 := ⟨6 - d, by omega⟩
      rw [hn] at hT
      have hR1 : ∀ i, i ∈ rouW w r a → ∃ x, w.ros[i]? = some x := fun i => rouW_mem
      have hRl := rouW_len w r a
      have h4 := hf.l4
      have hbest : ∀ i l, rouW w r a = i :: l → RouteOK w (roAt w (bestR w l i)) := fun i l e => best_ok hv e
      have hcon : 0 ≤ conW w r a → ∃ p : Nat, conW w r a = (p : Int) ∧ p < w.pts.length := by
        intro h0
        rcases conS_ok w a (ofW w r) _ (Nat.le_refl _) with h2 | ⟨q, hq, h2, _⟩
        · simp only [conW, h2] at h0; omega
        · exact ⟨q, by simp only [conW, h2], of_mem hq⟩
      have hC := C_rConnected w h hf hv r a ha
      have hR := C_rRoutes w h hf r a ha
      have k00 : (((0 : Nat) : Int) == 0) = true := rfl
      have emin : (if 65535 < c then (65535 : Int) else c) = if c ≤ 65535 then c else 65535 := by
        split <;> split <;> omega
      simp only [avU] at hC hR
      have hat := atB_eq w r a
      generalize hcE : conW w r a = cc at *
      generalize hRE : rouW w r a = R at *
      simp only [go_sem, QE, avU, f1, decide_true, low_net, one_net, len_net, take_net, Nat.le_refl]
      refine callX_of hC ?_
      simp only [go_sem, low_net, one_net, len_net, take_net, Nat.le_refl]
      refine callX_of hR ?_
      cases R with
      | nil =>
        by_cases h0 : 0 ≤ cc
        · obtain ⟨p, rfl, hpl⟩ := hcon h0
          have g0 : (0 ≤ (p : Int)) = True := eq_true h0
          rw [refN_at (by rw [hat]; simp [atB]), hcE, Int.toNat_natCast] at hT
          rw [← hT]
          simp only [go_sem, g0, k00, decide_true, List.length_nil, List.map_nil, avMm_min', emin, lookV, wayV, avI, avU]
        · have g0 : (0 ≤ cc) = False := eq_false h0
          rw [refN_nil (by rw [hat]; simp [atB, h0]) hRE] at hT
          rw [← hT]
          simp only [go_sem, g0, k00, decide_false, List.length_nil, List.map_nil, lookV, way0]
      | cons i l =>
        obtain ⟨x, hx⟩ := hR1 i (by simp)
        have hxi := roAt_of hx
        have hb := hbest i l rfl
        have kl : (((l.length + 1 : Nat) : Int) == 0) = false := by simp; omega
        have hvia : ∀ b, b = bestR w l i → ∃ x3, w.ros[b]? = some x3 ∧ roAt w b = x3 ∧ x3.via < 4294967296 := by
          rintro b rfl
          have hm : bestR w l i ∈ i :: l := by
            rcases bestR_mem w l i with h | h
            · rw [h]; simp
            · simp [h]
          obtain ⟨x3, hx3⟩ := hR1 _ hm
          exact ⟨x3, hx3, roAt_of hx3, h.rov x3 (List.mem_of_getElem? hx3)⟩
        have h3 : (∃ (p : Nat) (x2 : NPt) (k2 : Nat) (y2 : NLk), cc = (p : Int) ∧ w.pts[p]? = some x2 ∧ x2.lk = (k2 : Int) ∧ w.lks[k2]? = some y2 ∧ pfxW w p = y2 ∧ x.b ≤ y2.b) ∨
            (∃ (p : Nat) (x2 : NPt) (k2 : Nat) (y2 : NLk), cc = (p : Int) ∧ w.pts[p]? = some x2 ∧ x2.lk = (k2 : Int) ∧ w.lks[k2]? = some y2 ∧ pfxW w p = y2 ∧ ¬ x.b ≤ y2.b) ∨ ¬ 0 ≤ cc := by
          by_cases h0 : 0 ≤ cc
          · obtain ⟨p, rfl, hpl⟩ := hcon h0
            obtain ⟨x2, hx2⟩ : ∃ y, w.pts[p]? = some y := ⟨w.pts[p], List.getElem?_eq_getElem hpl⟩
            obtain ⟨k2, y2, hk2, hy2, hpf⟩ := pfx_of hv hx2
            by_cases hge : x.b ≤ y2.b
            · exact .inl ⟨p, x2, k2, y2, rfl, hx2, hk2, hy2, hpf, hge⟩
            · exact .inr (.inl ⟨p, x2, k2, y2, rfl, hx2, hk2, hy2, hpf, hge⟩)
          · exact .inr (.inr h0)
        simp only [atB, hxi] at hat
        rcases h3 with ⟨p, x2, k2, y2, rfl, hx2, hk2, hy2, hpf, hge⟩ | ⟨p, x2, k2, y2, rfl, hx2, hk2, hy2, hpf, hge⟩ | h0
        · have g0 : (0 ≤ (p : Int)) = True := eq_true (by omega)
          have g1 : (x.b ≤ y2.b) = True := eq_true hge
          have g2 : (y2.b ≥ x.b) = True := eq_true hge
          rw [Int.toNat_natCast, hpf] at hat
          rw [refN_at (by rw [hat]; simp [hge]), hcE, Int.toNat_natCast] at hT
          rw [← hT]
          simp only [go_sem, g0, kl, g1, g2, decide_true, netV, Int.natCast_nonneg, Int.toNat_natCast, Int.toNat_zero, Int.le_refl, List.length_cons, List.length_map, List.getElem?_map, List.getElem?_cons_zero, hx, hx2, hk2, hy2, hrI, Option.map_some, rowAgg, avPort, avLink, avRoute, avStr, avU, avI, avMm_min', emin, lookV, wayV]
        have g0 : (0 ≤ (p : Int)) = True := eq_true (by omega)
        have g1 : (x.b ≤ y2.b) = False := eq_false hge
        have g2 : (y2.b ≥ x.b) = False := eq_false hge
        rw [Int.toNat_natCast, hpf] at hat
        rw [refN_cons (by rw [hat]; simp [hge]) hRE] at hT
        simp only [go_sem, g0, kl, g1, g2, decide_true, decide_false, netV, Int.natCast_nonneg, Int.toNat_natCast, Int.toNat_zero, Int.le_refl, List.length_cons, List.length_map, List.getElem?_map, List.getElem?_cons_zero, List.map_cons, hx, hx2, hk2, hy2, hrI, Option.map_some, rowAgg, avPort, avLink, avRoute, avStr, avU, avI]
        rotate_left
        have g0 : (0 ≤ cc) = False := eq_false h0
        rw [refN_cons (by rw [hat]; simp [h0]) hRE] at hT
        simp only [go_sem, g0, kl, decide_true, decide_false, netV, Int.natCast_nonneg, Int.toNat_natCast, Int.toNat_zero, Int.le_refl, List.length_cons, List.length_map, List.getElem?_map, List.getElem?_cons_zero, List.map_cons, hx, hrI, Option.map_some, avU, avI]
        rotate_left
        all_goals
          refine aw_loop (fun m E => ∃ k : Nat, k + m = l.length ∧ E = mkE [(1, .lit (.int .i64 r)), (3, .lp 3 0), (6, .lp 6 0), (8, .lit (.int .i64 c)), (10, .lit (.int .i64 (d : Nat))), (12, .sl .none 1 ((i :: l).map avI)), (13, avI (bestR w (l.take k) i)), (14, .lit (.int .i64 ((k + 1 : Nat) : Int)))] [(3, netV w), (6, [.lit (.int .i64 0), .lit (.int .u32 0), .lit (.int .i64 0)])]) l.length ?_ ?_
          · exact ⟨0, by omega, by rw [List.take_zero]; rfl⟩
          · rintro m' _ ⟨k, hk, rfl⟩
            by_cases hkl : k < l.length
            · have q1 : (((k + 1 : Nat) : Int) < ((l.length + 1 : Nat) : Int)) = True := eq_true (by omega)
              have hw2 := wrap_succ (k + 1) (by simp only [List.length_cons] at hRl; omega)
              obtain ⟨j, hj⟩ : ∃ j, l[k]? = some j := ⟨l[k], List.getElem?_eq_getElem hkl⟩
              obtain ⟨xj, hxj⟩ := hR1 j (List.mem_cons_of_mem _ (List.mem_of_getElem? hj))
              have e1 : bestR w (l.take (k + 1)) i = bestStep w (bestR w (l.take k) i) j := by
                rw [List.take_add_one, hj, Option.toList_some, bestR_snoc]
              have hbm : bestR w (l.take k) i ∈ i :: l := by
                rcases bestR_mem w (l.take k) i with h | h
                · rw [h]; simp
                · exact List.mem_cons_of_mem _ (List.mem_of_mem_take h)
              obtain ⟨xb, hxb⟩ := hR1 _ hbm
              simp only [bestStep, roAt_of hxj, roAt_of hxb] at e1
              generalize bestR w (l.take k) i = b at *
              by_cases hlt : xj.cost < xb.cost
              · have g3 : (xj.cost < xb.cost) = True := eq_true hlt
                rw [if_pos hlt] at e1
                simp only [go_sem, q1, g3, netV, decide_true, Int.natCast_nonneg, Int.toNat_natCast, List.length_cons, List.length_map, List.map_cons, List.getElem?_cons_succ, List.getElem?_map, hj, hxj, hxb, hrI, Option.map_some, rowAgg, avRoute, avU, avI, hw2]
                exact ⟨m' - 1, by omega, k + 1, by omega, by rw [e1]⟩
              · have g3 : (xj.cost < xb.cost) = False := eq_false hlt
                rw [if_neg hlt] at e1
                simp only [go_sem, q1, g3, netV, decide_true, decide_false, Int.natCast_nonneg, Int.toNat_natCast, List.length_cons, List.length_map, List.map_cons, List.getElem?_cons_succ, List.getElem?_map, hj, hxj, hxb, hrI, Option.map_some, rowAgg, avRoute, avU, avI, hw2]
                exact ⟨m' - 1, by omega, k + 1, by omega, by rw [e1]⟩
            · have q1 : (((k + 1 : Nat) : Int) < ((l.length + 1 : Nat) : Int)) = False := eq_false (by omega)
              rw [List.take_of_length_le (by omega)]
              obtain ⟨x3, hx3, e3, hvl⟩ := hvia _ rfl
              rw [e3] at hb hT
              have hb0 := hb.c0
              have hb1 := hb.c1
              have hwc : IntKind.wrap .i64 (c + x3.cost) = c + x3.cost := iw _ (by omega) (by omega)
              generalize bestR w l i = b at *
              simp only [go_sem, q1, netV, decide_false, Int.natCast_nonneg, Int.toNat_natCast, List.length_cons, List.length_map, List.map_cons, List.getElem?_map, hx3, hrI, Option.map_some, rowAgg, avRoute, avU, avI, hwc, hw]
              clear hcon
              exact ⟨m - 1, by omega, d + 1, c + x3.cost, x3.via, x3.via, by omega, by rw [show 7 - (d + 1) = n by omega]; exact hT, by omega, by push_cast; omega, hvl, rfl⟩
    · have f1 : ((d : Int) ≤ 6) = False := eq_false (by omega)
      rw [show 7 - d = 0 by omega, refN] at hT
      rw [← hT]
      simp only [go_sem, QE, f1, decide_false, lookV, way0]
end Go.Proofs.YtelbgkknneljeaaGreatDoor.VL
end

section
set_option maxHeartbeats 4000000
namespace Go.Proofs.YtelbgkknneljeaaGreatDoor.VL
open Go.RowKit Go.Proofs
theorem map_avI (l : List Nat) : l.map avI = (l.map fun n : Nat => (n : Int)).map iI := by
  rw [List.map_map]
  rfl
theorem C_SameInts (l m : List Int) (hl : l.length < 9223372036854775808) : AC Tryz.prog f_q12 [.sl .none 1 (l.map iI), .sl .none 1 (m.map iI)] (.lit (.bool (decide (l = m)))) := by
  refine ac_q12 ?_ (Nat.le_add_left 2 _)
  by_cases h0 : l.length = m.length
  case neg =>
    have f0 : ((l.length : Int) != (m.length : Int)) = true := by simp; omega
    have e0 : decide (l = m) = false := by
      simp only [decide_eq_false_iff_not]
      intro e
      exact h0 (by rw [e])
    simp only [go_sem, c_q12, List.length_map, f0, e0]
  have f0 : ((l.length : Int) != (m.length : Int)) = false := by simp; omega
  simp only [go_sem, c_q12, List.length_map, f0]
  refine aw_loop (fun n E => ∃ k : Nat, k + n = l.length ∧ l.take k = m.take k ∧ E = mkE [(0, .sl .none 1 (l.map iI)), (1, .sl .none 1 (m.map iI)), (5, .lit (.int .i64 (k : Nat)))] []) l.length ?_ ?_
  · exact ⟨0, by omega, rfl, rfl⟩
  · rintro n _ ⟨k, hk, ht, rfl⟩
    have hrI := fun x => avRow_some 1 .none (AV.lit x) rfl
    by_cases hkl : k < l.length
    · have f1 : ((k : Int) < (l.length : Int)) = True := eq_true (by omega)
      have hw := wrap_succ k (by omega)
      obtain ⟨a, ha⟩ : ∃ a, l[k]? = some a := ⟨l[k], List.getElem?_eq_getElem hkl⟩
      obtain ⟨b, hb⟩ : ∃ b, m[k]? = some b := ⟨m[k]'(by omega), List.getElem?_eq_getElem (by omega)⟩
      cases hp : a == b
      · have e0 : decide (l = m) = false := by
          simp only [decide_eq_false_iff_not]
          intro e
          rw [e, hb] at ha
          injection ha with ha
          rw [ha] at hp
          simp at hp
        simp only [go_sem, List.length_map, f1, decide_true, Int.natCast_nonneg, Int.toNat_natCast, List.getElem?_map, ha, hb, Option.map_some, hrI, iI, hp, e0]
      · have e : a = b := by simpa using hp
        simp only [go_sem, List.length_map, f1, decide_true, Int.natCast_nonneg, Int.toNat_natCast, List.getElem?_map, ha, hb, Option.map_some, hrI, iI, hp, hw]
        exact ⟨n - 1, by omega, k + 1, by omega, by rw [List.take_add_one, List.take_add_one, ht, ha, hb, e], rfl⟩
    · have f1 : ((k : Int) < (l.length : Int)) = False := eq_false (by omega)
      have e0 : decide (l = m) = true := by
        simp only [decide_eq_true_eq]
        rwa [List.take_of_length_le (by omega), List.take_of_length_le (by omega)] at ht
      simp only [go_sem, List.length_map, f1, decide_false, e0]
end Go.Proofs.YtelbgkknneljeaaGreatDoor.VL
end

section
set_option maxHeartbeats 4000000
namespace Go.Proofs.YtelbgkknneljeaaGreatDoor.VL
open Go.RowKit Go.Proofs
theorem line_v20 : vNet (lineW 2 0) = none := by decide +kernel
theorem line_ok20 : (lineW 2 0).OK := by
  constructor <;> decide +kernel
theorem line_l20 : lookN (lineW 2 0) 0 6 (addrL 0 9) = some (0, 0, 0) := by decide +kernel
theorem C_first9 : AC Tryz.prog f_q5 [] (.lit (.bool true)) := by
  refine ac_q5 ?_ (Nat.zero_le _)
  have hL := C_Look (lineW 2 0) line_ok20 (vfit line_v20) line_v20 0 (addrL 0 9) (by decide)
  rw [line_l20] at hL
  have k0 : (((0 : Nat) : Int) == 0) = true := rfl
  have k1 : ((0 : Int) == 0) = true := rfl
  simp only [go_sem, c_q5]
  refine callX_of (C_Line 2 0 (by decide) (by decide) (by decide)) ?_
  simp only [go_sem, low_net, one_net, len_net, take_net, Nat.le_refl]
  refine callX_of (C_New (lineW 2 0) line_ok20 (vfit line_v20) line_v20) ?_
  simp only [go_sem]
  refine callX_of (C_nAddr 0 9 (by decide) (by decide)) ?_
  simp only [go_sem]
  refine callX_of hL ?_
  simp only [go_sem, lookV, wayV, avI, avU, k0, k1]
theorem C_RibSays (w : NW) (h : w.OK) (r : Int) (l : List Nat) (hla : ∀ a ∈ l, a < 4294967296) : AC Tryz.prog f_q0 [.agg (netV w), .lit (.int .i64 r), .sl .none 1 (l.map avU)] (.lit (.bool true)) := by
  refine ac_q0 ?_ (Nat.le_add_left 3 _)
  simp only [go_sem, c_q0, low_net, one_net, len_net, take_net, Nat.le_refl]
  refine callX_of C_first9 ?_
  simp only [go_sem, low_net, one_net, len_net, take_net, Nat.le_refl]
  refine callX_of (C_Light w h 8) ?_
  cases hL : lightN w 8
  · simp only [go_sem]
  have lo := lightN_iff.1 hL
  have hv := lo.v
  have hf := vfit hv
  have z4 := lo.l4
  by_cases h20 : 20 < l.length
  · have f1 : ((20 : Int) < (l.length : Int)) = True := eq_true (by omega)
    have f2 : ((l.length : Int) > 20) = True := eq_true (by omega)
    simp only [go_sem, List.length_map, f1, f2, decide_true]
  have f1 : ((20 : Int) < (l.length : Int)) = False := eq_false (by omega)
  have f2 : ((l.length : Int) > 20) = False := eq_false (by omega)
  simp only [go_sem, List.length_map, f1, f2, decide_false, low_net, one_net, len_net, take_net, Nat.le_refl]
  refine callX_of (C_New w h hf hv) ?_
  simp only [go_sem]
  refine aw_loop (fun m E => ∃ i : Nat, i + m = l.length ∧ E = mkE [(1, .lit (.int .i64 r)), (2, .sl .none 1 (l.map avU)), (3, .lp 3 0), (8, .rp (topoV w)), (10, .lit (.int .i64 (i : Nat)))] [(3, netV w)]) l.length ?_ ?_
  · exact ⟨0, by omega, by simp only [go_sem, Int.natCast_zero]⟩
  · rintro m _ ⟨i, him, rfl⟩
    have hrI := fun x => avRow_some 1 .none (AV.lit x) rfl
    have kff : (false == false) = true := rfl
    have ktt : (true == true) = true := rfl
    by_cases hil : i < l.length
    · have g1 : ((i : Int) < (l.length : Int)) = True := eq_true (by omega)
      have hw := wrap_succ i (by omega)
      obtain ⟨a, ha⟩ : ∃ a, l[i]? = some a := ⟨l[i], List.getElem?_eq_getElem hil⟩
      have hal := hla a (List.mem_of_getElem? ha)
      have hC := C_Connected w h hf hv r a hal
      have hrC := C_rConnected w h hf hv r a hal
      have hLk := C_Look w h hf hv r a hal
      have hrL := C_rLook w h hf hv r a hal
      have hR := C_Routes w h hf hv r a hal
      have hrR := C_rRoutes w h hf r a hal
      have hRl := rouW_len w r a
      have hS := C_SameInts ((rouW w r a).map fun n : Nat => (n : Int)) ((rouW w r a).map fun n : Nat => (n : Int)) (by rw [List.length_map]; omega)
      rw [← map_avI] at hS
      simp only [decide_true] at hS
      simp only [avU] at hC hrC hLk hrL hR hrR
      generalize conW w r a = c at *
      generalize rouW w r a = R at *
      generalize lookN w r 6 a = q at *
      simp only [go_sem, g1, List.length_map, decide_true, Int.natCast_nonneg, Int.toNat_natCast, List.getElem?_map, ha, hrI, Option.map_some, avU]
      refine callX_of hC ?_
      simp only [go_sem, low_net, one_net, len_net, take_net, Nat.le_refl, List.length_map, Int.natCast_nonneg, Int.toNat_natCast, List.getElem?_map, ha, hrI, Option.map_some, avU]
      refine callX_of hrC ?_
      simp only [go_sem, List.length_map, Int.natCast_nonneg, Int.toNat_natCast, List.getElem?_map, ha, hrI, Option.map_some, avU]
      refine callX_of hLk ?_
      have b0 : ∀ x : Int, (x != x) = false := fun x => by simp
      have hcc : (0 ≤ c ∧ con0 c = c) ∨ ¬ 0 ≤ c := by
        by_cases h0 : 0 ≤ c
        · exact .inl ⟨h0, if_neg (by omega)⟩
        · exact .inr h0
      rcases hcc with ⟨h0, e0⟩ | h0
      · have g0 : (0 ≤ c) = True := eq_true h0
        cases q with
        | none =>
          simp only [go_sem, lookV, way0, low_net, one_net, len_net, take_net, Nat.le_refl, List.length_map, Int.natCast_nonneg, Int.toNat_natCast, List.getElem?_map, ha, hrI, Option.map_some, avU]
          refine callX_of hrL ?_
          simp only [go_sem, lookV, way0, g0, e0, b0, kff, ktt, decide_true, List.length_map, Int.natCast_nonneg, Int.toNat_natCast, List.getElem?_map, ha, hrI, Option.map_some, avU]
          refine callX_of hR ?_
          simp only [go_sem, low_net, one_net, len_net, take_net, Nat.le_refl, List.length_map, Int.natCast_nonneg, Int.toNat_natCast, List.getElem?_map, ha, hrI, Option.map_some, avU]
          refine callX_of hrR ?_
          simp only [go_sem]
          refine callX_of hS ?_
          simp only [go_sem, b0, kff, ktt, hw]
          exact ⟨m - 1, by omega, i + 1, by omega, rfl⟩
        | some q =>
          simp only [go_sem, lookV, wayV, avI, avU, low_net, one_net, len_net, take_net, Nat.le_refl, List.length_map, Int.natCast_nonneg, Int.toNat_natCast, List.getElem?_map, ha, hrI, Option.map_some]
          refine callX_of hrL ?_
          simp only [go_sem, lookV, wayV, avI, g0, e0, b0, kff, ktt, decide_true, List.length_map, Int.natCast_nonneg, Int.toNat_natCast, List.getElem?_map, ha, hrI, Option.map_some, avU]
          refine callX_of hR ?_
          simp only [go_sem, low_net, one_net, len_net, take_net, Nat.le_refl, List.length_map, Int.natCast_nonneg, Int.toNat_natCast, List.getElem?_map, ha, hrI, Option.map_some, avU]
          refine callX_of hrR ?_
          simp only [go_sem]
          refine callX_of hS ?_
          simp only [go_sem, b0, kff, ktt, hw]
          exact ⟨m - 1, by omega, i + 1, by omega, rfl⟩
      · have g0 : (0 ≤ c) = False := eq_false h0
        cases q with
        | none =>
          simp only [go_sem, lookV, way0, low_net, one_net, len_net, take_net, Nat.le_refl, List.length_map, Int.natCast_nonneg, Int.toNat_natCast, List.getElem?_map, ha, hrI, Option.map_some, avU]
          refine callX_of hrL ?_
          simp only [go_sem, lookV, way0, g0, b0, kff, ktt, decide_true, decide_false, List.length_map, Int.natCast_nonneg, Int.toNat_natCast, List.getElem?_map, ha, hrI, Option.map_some, avU]
          refine callX_of hR ?_
          simp only [go_sem, low_net, one_net, len_net, take_net, Nat.le_refl, List.length_map, Int.natCast_nonneg, Int.toNat_natCast, List.getElem?_map, ha, hrI, Option.map_some, avU]
          refine callX_of hrR ?_
          simp only [go_sem]
          refine callX_of hS ?_
          simp only [go_sem, b0, kff, ktt, hw]
          exact ⟨m - 1, by omega, i + 1, by omega, rfl⟩
        | some q =>
          simp only [go_sem, lookV, wayV, avI, avU, low_net, one_net, len_net, take_net, Nat.le_refl, List.length_map, Int.natCast_nonneg, Int.toNat_natCast, List.getElem?_map, ha, hrI, Option.map_some]
          refine callX_of hrL ?_
          simp only [go_sem, lookV, wayV, avI, g0, b0, kff, ktt, decide_true, decide_false, List.length_map, Int.natCast_nonneg, Int.toNat_natCast, List.getElem?_map, ha, hrI, Option.map_some, avU]
          refine callX_of hR ?_
          simp only [go_sem, low_net, one_net, len_net, take_net, Nat.le_refl, List.length_map, Int.natCast_nonneg, Int.toNat_natCast, List.getElem?_map, ha, hrI, Option.map_some, avU]
          refine callX_of hrR ?_
          simp only [go_sem]
          refine callX_of hS ?_
          simp only [go_sem, b0, kff, ktt, hw]
          exact ⟨m - 1, by omega, i + 1, by omega, rfl⟩
    · have g1 : ((i : Int) < (l.length : Int)) = False := eq_false (by omega)
      simp only [go_sem, g1, List.length_map, decide_false]
end Go.Proofs.YtelbgkknneljeaaGreatDoor.VL
end

