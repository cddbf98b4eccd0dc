import Derived.Test.YtbgfkdpjnabhkaaGreatDoorGb14
set_option linter.unusedVariables false
set_option linter.unusedSimpArgs false
section
set_option maxHeartbeats 4000000
namespace Go.Proofs.YtbgfkdpjnabhkaaGreatDoor.VL
open Go.RowKit Go.Proofs
theorem C_sOther (p : Int × Int) : AC Tryz.prog f_q28 [avS p] (avS p) := by
  refine ac_q28 ?_ (Nat.le_add_left 1 _)
  simp only [go_sem, c_q28, avS, avSeat]
def bestJ (l : List (Int × Int)) : Nat → Int
  | 0 => -1
  | i + 1 => ((bestAt l (i + 1) : Nat) : Int)
theorem seatW_out {w : NW} {k : Int} (h : ¬ (0 ≤ k ∧ k < (w.lks.length : Int))) : seatW w k = none := by
  have e : onW w k = [] := if_neg h
  unfold seatW
  rw [e]
  rfl
theorem C_SeatSays (l : List (Int × Int)) (w : NW) (h : w.OK) (k : Int) : AC Tryz.prog f_q4 [.sl .none 2 (l.map avS), .agg (netV w), .lit (.int .i64 k)] (.lit (.bool true)) := by
  refine ac_q4 ?_ (Nat.le_add_left 3 _)
  simp only [go_sem, c_q4, low_net, one_net, len_net, take_net, Nat.le_refl]
  refine callX_of C_first12 ?_
  by_cases h20 : 20 < l.length
  · have f1 : ((20 : Int) < (l.length : Int)) = True := eq_true (by omega)
    have f2 : ((l.length : Int) > 20) = True := eq_true (by omega)
    simp only [go_sem, List.length_map, f1, f2, decide_true]
  have f1 : ((20 : Int) < (l.length : Int)) = False := eq_false (by omega)
  have f2 : ((l.length : Int) > 20) = False := eq_false (by omega)
  simp only [go_sem, List.length_map, f1, f2, decide_false, low_net, one_net, len_net, take_net, Nat.le_refl]
  refine callX_of (C_Light w h 8) ?_
  cases hL : lightN w 8
  · simp only [go_sem]
  have lo := lightN_iff.1 hL
  have hv := lo.v
  have hf := vfit hv
  simp only [go_sem]
  refine aw_loop (fun m E => ∃ i : Nat, i + m = l.length ∧ E = mkE [(0, .sl .none 2 (l.map avS)), (2, .lit (.int .i64 k)), (4, .lp 4 0), (8, .lit (.int .i64 (bestJ l i))), (9, .lit (.int .i64 (i : Nat)))] [(4, netV w)]) l.length ?_ ?_
  · exact ⟨0, by omega, by simp only [go_sem, bestJ, Int.natCast_zero]⟩
  · rintro m _ ⟨i, him, rfl⟩
    by_cases hil : i < l.length
    · have g1 : ((i : Int) < (l.length : Int)) = True := eq_true (by omega)
      have hw := wrap_succ i (by omega)
      obtain ⟨p, hp⟩ : ∃ p, l[i]? = some p := ⟨l[i], List.getElem?_eq_getElem hil⟩
      obtain ⟨z, hz⟩ : ∃ z, l[0]? = some z := ⟨l[0]'(by omega), List.getElem?_eq_getElem (by omega)⟩
      have hBt : AC Tryz.prog f_q26 [avS p, avS z] (.lit (.bool (betterP p z))) := C_Better _ _ _ _
      have hAz := C_rAhead p z
      have hop := C_sOther p
      have hoz := C_sOther z
      simp only [avS, avSeat] at hBt hAz hop hoz
      have fin : ∀ b : Bool, (b != b) = false := fun b => by cases b <;> rfl
      cases i with
      | zero =>
        have n1 : ((-1 : Int) < 0) = True := eq_true (by decide)
        have e1 : bestJ l (0 + 1) = 0 := by simp only [bestJ, Nat.zero_add, bestAt_one]; rfl
        rw [hz] at hp
        injection hp with hp
        subst hp
        rw [show ((0 : Nat) : Int) = 0 from rfl] at g1 hw
        have e0 : bestJ l 0 = -1 := rfl
        simp only [go_sem, e0, g1, List.length_map, decide_true, Int.natCast_nonneg, Int.toNat_natCast, Int.toNat_zero, List.getElem?_map, hz, Option.map_some, rowAgg, avS, avSeat, Int.natCast_zero, Int.le_refl]
        refine callX_of hBt ?_
        simp only [go_sem, g1, List.length_map, decide_true, Int.natCast_nonneg, Int.toNat_natCast, Int.toNat_zero, List.getElem?_map, hz, Option.map_some, rowAgg, avS, avSeat, Int.natCast_zero, Int.le_refl]
        refine callX_of hoz ?_
        simp only [go_sem, g1, List.length_map, decide_true, Int.natCast_nonneg, Int.toNat_natCast, Int.toNat_zero, List.getElem?_map, hz, Option.map_some, rowAgg, avS, avSeat, Int.natCast_zero, Int.le_refl]
        refine callX_of hoz ?_
        simp only [go_sem]
        refine callX_of hAz ?_
        simp only [go_sem, fin, n1, decide_true, hw]
        exact ⟨m - 1, by omega, 0 + 1, by omega, by rw [e1]⟩
      | succ j =>
        have hbl := bestAt_le l (j + 1)
        obtain ⟨q, hq⟩ : ∃ q, l[bestAt l (j + 1)]? = some q := ⟨l[bestAt l (j + 1)]'(by omega), List.getElem?_eq_getElem (by omega)⟩
        have hAq := C_rAhead p q
        have hoq := C_sOther q
        simp only [avS, avSeat] at hAq hoq
        have e2 : bestAt l (j + 1 + 1) = if betterP p q then j + 1 else bestAt l (j + 1) := by
          rw [bestAt, hp, hq]
        have n1 : (((bestAt l (j + 1) : Nat) : Int) < 0) = False := eq_false (by omega)
        have e0 : bestJ l (j + 1) = ((bestAt l (j + 1) : Nat) : Int) := rfl
        simp only [go_sem, e0, g1, List.length_map, decide_true, Int.natCast_nonneg, Int.toNat_natCast, Int.toNat_zero, List.getElem?_map, hp, hz, Option.map_some, rowAgg, avS, avSeat, Int.le_refl]
        refine callX_of hBt ?_
        simp only [go_sem, g1, List.length_map, decide_true, Int.natCast_nonneg, Int.toNat_natCast, Int.toNat_zero, List.getElem?_map, hp, hz, Option.map_some, rowAgg, avS, avSeat, Int.le_refl]
        refine callX_of hop ?_
        simp only [go_sem, g1, List.length_map, decide_true, Int.natCast_nonneg, Int.toNat_natCast, Int.toNat_zero, List.getElem?_map, hp, hz, Option.map_some, rowAgg, avS, avSeat, Int.le_refl]
        refine callX_of hoz ?_
        simp only [go_sem]
        refine callX_of hAz ?_
        simp only [go_sem, fin, n1, decide_false, g1, List.length_map, decide_true, Int.natCast_nonneg, Int.toNat_natCast, List.getElem?_map, hp, Option.map_some, rowAgg, avS, avSeat]
        refine callX_of hop ?_
        simp only [go_sem, n1, decide_false, List.length_map, decide_true, Int.natCast_nonneg, Int.toNat_natCast, List.getElem?_map, hq, Option.map_some, rowAgg, avS, avSeat]
        refine callX_of hoq ?_
        simp only [go_sem]
        refine callX_of hAq ?_
        cases hbt : betterP p q
        · simp only [go_sem, hw]
          exact ⟨m - 1, by omega, j + 1 + 1, by omega, by simp only [bestJ, e2, hbt, Bool.false_eq_true, if_false]⟩
        · simp only [go_sem, hw]
          exact ⟨m - 1, by omega, j + 1 + 1, by omega, by simp only [bestJ, e2, hbt, if_true]⟩
    · have g1 : ((i : Int) < (l.length : Int)) = False := eq_false (by omega)
      have e : i = l.length := by omega
      subst e
      simp only [go_sem, List.length_map, g1, decide_false]
      refine callX_of (C_Best .none l (by omega)) ?_
      simp only [go_sem, low_net, one_net, len_net, take_net, Nat.le_refl]
      refine callX_of (C_New w h hf hv) ?_
      have hSo := C_seatOf w hf hv k
      have hRS := C_rSeat w hf hv k
      have key : (decide (0 < l.length) = false ∧ bestJ l l.length = -1) ∨ (decide (0 < l.length) = true ∧ bestJ l l.length = ((bestAt l l.length : Nat) : Int)) := by
        cases l with
        | nil => exact .inl ⟨rfl, rfl⟩
        | cons a l => exact .inr ⟨by simp, rfl⟩
      generalize bestJ l l.length = bj at *
      generalize bestAt l l.length = ba at *
      have m1 : (0 ≤ (-1 : Int)) = False := eq_false (by decide)
      have m2 : (0 ≤ (ba : Int)) = True := eq_true (by omega)
      have m3 : ((ba : Int) != (ba : Int)) = false := by simp
      have kff : (false == false) = true := rfl
      have ktt : (true == true) = true := rfl
      rcases key with ⟨e1, rfl⟩ | ⟨e1, rfl⟩
      all_goals
        simp only [go_sem, e1, m1, m2, m3, kff, ktt, decide_true, decide_false]
        refine callX_of hSo ?_
        by_cases k0 : 0 ≤ k
        · have g2 : (k ≥ 0) = True := eq_true k0
          have g3 : (0 ≤ k) = True := eq_true k0
          by_cases k1 : k < (w.lks.length : Int)
          · have g4 : (k < (w.lks.length : Int)) = True := eq_true k1
            simp only [go_sem, netV, g2, g3, g4, List.length_map, decide_true]
            simp only [netV] at hRS
            refine callX_of hRS ?_
            cases hS : seatW w k with
            | none =>
              have n1 : (((-1 : Int)) ≥ 0) = False := eq_false (by decide)
              have n2 : (0 ≤ ((-1 : Int))) = False := eq_false (by decide)
              simp only [go_sem, n1, n2, kff, ktt, Option.isSome_none, decide_false]
            | some p =>
              have n1 : ((p : Int) ≥ 0) = True := eq_true (by omega)
              have n2 : (0 ≤ (p : Int)) = True := eq_true (by omega)
              simp only [go_sem, avI, n1, n2, Option.isSome_some, Option.getD_some, kff, ktt, decide_true, beq_self_eq_true]
          · have g4 : (k < (w.lks.length : Int)) = False := eq_false k1
            have n1 : (((-1 : Int)) ≥ 0) = False := eq_false (by decide)
            have n2 : (0 ≤ ((-1 : Int))) = False := eq_false (by decide)
            simp only [go_sem, netV, g2, g3, g4, List.length_map, decide_true, decide_false, seatW_out (w := w) (k := k) (by omega), n1, n2, kff, ktt, Option.isSome_none]
        · have g2 : (k ≥ 0) = False := eq_false k0
          have g3 : (0 ≤ k) = False := eq_false k0
          have n1 : (((-1 : Int)) ≥ 0) = False := eq_false (by decide)
          have n2 : (0 ≤ ((-1 : Int))) = False := eq_false (by decide)
          simp only [go_sem, g2, g3, decide_false, seatW_out (w := w) (k := k) (by omega), n1, n2, kff, ktt, Option.isSome_none]
end Go.Proofs.YtbgfkdpjnabhkaaGreatDoor.VL
end

section
namespace Go.Proofs.YtbgfkdpjnabhkaaGreatDoor
open Go.RowKit VL
theorem fit_bid {cs : List AV} (h : FitL [.int .i64, .int .u32] cs) : ∃ x : Int × Int, True ∧ mkRow true cs = avS x := by
  simp only [FitL, Fit] at h
  obtain ⟨_, _, rfl, ⟨a, rfl, _⟩, _, _, rfl, ⟨b, rfl, _⟩, rfl⟩ := h
  exact ⟨(a, b), trivial, rfl⟩
end Go.Proofs.YtbgfkdpjnabhkaaGreatDoor
end

section
set_option maxHeartbeats 4000000
namespace Go.Proofs.YtbgfkdpjnabhkaaGreatDoor.VL
open Go.RowKit Go.Proofs
theorem avMm_min (k : IntKind) (a b : Int) : avMm false [.lit (.int k a), .lit (.int k b)] = some (.lit (.int k (if b < a then b else a))) := by
  simp [avMm, aval.litOf, Builtin.min_, Builtin.min2, p0, Pure.pure, Bind.bind, Sem.bind]
theorem C_IndexFuncA {f : FuncId} {fst caps : List AV} {asf : Int → List AV} {p : Int → Bool} (t : Tok) (hf : frB t = false) (l : List Int) (hl : l.length < 9223372036854775808)
    (hlow : ∀ n, mapO (lower (getC []) 8) (fst ++ [.lit (.int .u32 n)] ++ caps) = some (asf n)) (hAC : ∀ n, AC Tryz.prog f (asf n) (.lit (.bool (p n)))) :
    AC Tryz.prog f_q123 [.sl t 1 (l.map aI), .clo (.func f) fst caps] (.lit (.int .i64 (idxOf p l))) := by
  refine ac_q123 ?_ (Nat.le_add_left 2 17)
  simp only [go_sem, c_q123]
  refine aw_loop (fun m E => ∃ k, k + m = l.length ∧ (∀ (j : Nat) (y : Int), j < k → l[j]? = some y → p y = false) ∧ E = mkE [(0, .sl t 1 (l.map aI)), (1, .clo (.func f) fst caps), (7, .lit (.int .i64 l.length)), (8, .lit (.int .i64 (k : Nat)))] []) l.length ?_ ?_
  · exact ⟨0, by omega, fun j y hj => absurd hj (Nat.not_lt_zero j), by simp only [go_sem, Int.ofNat_zero]⟩
  · rintro m _ ⟨k, hk, hall, rfl⟩
    simp only [go_sem]
    refine condX_of (fun h => ?_) (fun h => ?_)
    · have hkl : k < l.length := by simpa using h
      obtain ⟨x, hx⟩ : ∃ x, l[k]? = some x := ⟨l[k], List.getElem?_eq_getElem hkl⟩
      have hw := wrap_succ k (by omega)
      simp only [go_sem, h, hx, Int.toNat_natCast, Int.natCast_nonneg, aI, List.getElem?_map, avRow_some, hf, hlow]
      refine callX_of (hAC x) ?_
      cases hp : p x
      · simp only [go_sem, hw]
        refine ⟨m - 1, by omega, k + 1, by omega, fun j y hj hy => ?_, rfl⟩
        by_cases hjk : j = k
        · subst hjk
          rw [hx] at hy
          injection hy with hy
          rw [← hy]
          exact hp
        · exact hall j y (by omega) hy
      · simp only [go_sem, idxOf_some hx hp hall]
    · have hkl : k = l.length := by have : ¬ k < l.length := by simpa using h
                                    omega
      have e : idxOf p l = -1 := idxOf_none fun i x hi => hall i x (by have := (List.getElem?_eq_some_iff.1 hi).1; omega) hi
      simp only [go_sem, h, e]
theorem C_ContainsFuncA {f : FuncId} {fst caps : List AV} {asf : Int → List AV} {p : Int → Bool} (t : Tok) (hf : frB t = false) (l : List Int) (hl : l.length < 9223372036854775808)
    (ht : lowTok t = t) (hfst : mapO (lower (getC []) 7) fst = some fst) (hcaps : mapO (lower (getC []) 7) caps = some caps)
    (hlow : ∀ n, mapO (lower (getC []) 8) (fst ++ [.lit (.int .u32 n)] ++ caps) = some (asf n)) (hAC : ∀ n, AC Tryz.prog f (asf n) (.lit (.bool (p n)))) :
    AC Tryz.prog f_q81 [.sl t 1 (l.map aI), .clo (.func f) fst caps] (.lit (.bool (l.any p))) := by
  refine ac_q81 ?_ (Nat.le_add_left 2 7)
  simp only [go_sem, c_q81, ht, hfst, hcaps]
  refine callX_of (C_IndexFuncA t hf l hl hlow hAC) ?_
  simp only [go_sem, any_idx]
theorem C_Step1 (x own : Int) : AC Tryz.prog f_q82 [.lit (.int .u32 x), .bp [.lit (.int .u32 own)]] (.lit (.bool (decide (x < own)))) := by
  refine ac_q82 ?_ (Nat.le_add_left 2 5)
  simp only [go_sem, c_q82]
def avT (u : Int × Int) : AV := .agg [.lit (.int .i64 u.1), .lit (.int .i64 u.2)]
def stepQ (u : Int × Int) (own : Int) (l : List Int) : Int × Int :=
  if l.any (fun a => decide (a < own)) then (0, 3) else if 1 < u.2 then (0, IntKind.i64.wrap (u.2 - 1)) else (1, 0)
theorem C_Step (u : Int × Int) (own : Int) (t : Tok) (hf : frB t = false) (l : List Int) (hl : l.length < 9223372036854775808) (ht : lowTok t = t) : AC Tryz.prog f_q47 [avT u, aI own, .sl t 1 (l.map aI)] (avT (stepQ u own l)) := by
  refine ac_q47 ?_ (Nat.le_add_left 3 16)
  simp only [go_sem, c_q47, avT, aI, ht]
  refine callX_of (C_ContainsFuncA (p := fun a => decide (a < own)) (asf := fun n => [.lit (.int .u32 n), .bp [.lit (.int .u32 own)]]) t hf l hl ht ?_ ?_ ?_ ?_) ?_
  · simp only [go_sem]
  · simp only [go_sem]
  · intro n
    simp only [go_sem]
  · exact fun n => C_Step1 n own
  cases ha : l.any (fun a => decide (a < own))
  · simp only [go_sem]
    refine condX_of (fun h => ?_) (fun h => ?_)
    · simp only [go_sem, h]
      have h' : 1 < u.2 := by simpa using h
      simp [stepQ, ha, h']
    · simp only [go_sem, h]
      have h' : ¬ 1 < u.2 := by simpa using h
      simp [stepQ, ha, h']
  · simp only [go_sem]
    simp [stepQ, ha]
theorem C_first13 : AC Tryz.prog f_q45 [] (.lit (.bool true)) := by
  refine ac_q45 ?_ (Nat.zero_le 12)
  simp only [go_sem, c_q45]
  refine callX_of ((C_Step (0, 0) 5 .none rfl [] (by decide) rfl).nil [_, _] (by simp)) ?_
  simp only [go_sem, avT, stepQ, List.any_nil, Int.reduceLT, Int.reduceBEq]
def minTo (l : List Int) : Nat → Int
  | 0 => l.headD 0
  | k + 1 => match l[k + 1]? with
    | some x => if x < minTo l k then x else minTo l k
    | none => minTo l k
theorem minTo_le (l : List Int) : ∀ (k j : Nat) (x : Int), j ≤ k → l[j]? = some x → minTo l k ≤ x
  | 0, j, x, hj, hx => by
    obtain rfl : j = 0 := by omega
    cases l with
    | nil => simp at hx
    | cons y l => simp at hx; subst hx; simp [minTo]
  | k + 1, j, x, hj, hx => by
    simp only [minTo]
    by_cases hjk : j = k + 1
    · subst hjk
      rw [hx]
      simp only
      split <;> omega
    · have := minTo_le l k j x (by omega) hx
      split
      · split <;> omega
      · exact this
theorem minTo_mem (l : List Int) (h : 0 < l.length) : ∀ k, ∃ j : Nat, l[j]? = some (minTo l k)
  | 0 => ⟨0, by cases l with | nil => simp at h | cons y l => rfl⟩
  | k + 1 => by
    obtain ⟨j, hj⟩ := minTo_mem l h k
    simp only [minTo]
    split
    · rename_i x hx
      split
      · exact ⟨k + 1, hx⟩
      · exact ⟨j, hj⟩
    · exact ⟨j, hj⟩
def leastOf (l : List Int) : Int := minTo l (l.length - 1)
theorem C_Min (t : Tok) (hf : frB t = false) (l : List Int) (h0 : 0 < l.length) (hl : l.length < 9223372036854775808) : AC Tryz.prog f_q80 [.sl t 1 (l.map aI)] (aI (leastOf l)) := by
  refine ac_q80 ?_ (Nat.le_add_left 1 24)
  obtain ⟨y, hy⟩ : ∃ y, l[0]? = some y := ⟨l[0], List.getElem?_eq_getElem h0⟩
  have hd : l.headD 0 = y := by cases l with | nil => simp at h0 | cons z l => simpa using hy
  have h1 : decide ((l.length : Int) < 1) = false := by simp; omega
  simp only [go_sem, c_q80, h1, Int.toNat_zero, hy, aI, Int.le_refl, avRow_some, hf]
  refine aw_loop (fun m E => ∃ k, k + 1 + m = l.length ∧ E = mkE [(0, .sl t 1 (l.map aI)), (3, aI (minTo l k)), (4, .lit (.int .i64 ((k + 1 : Nat) : Int)))] []) (l.length - 1) ?_ ?_
  · exact ⟨0, by omega, by simp only [go_sem, minTo, hd, aI]; rfl⟩
  · rintro m _ ⟨k, hk, rfl⟩
    simp only [go_sem, aI]
    refine condX_of (fun h => ?_) (fun h => ?_)
    · have hkl : k + 1 < l.length := by have := of_decide_eq_true h
                                        omega
      obtain ⟨x, hx⟩ : ∃ x, l[k + 1]? = some x := ⟨l[k + 1], List.getElem?_eq_getElem hkl⟩
      have hw := wrap_succ (k + 1) (by omega)
      simp only [go_sem, hx, Int.toNat_natCast, Int.natCast_nonneg, aI, avMm_min, avRow_some, hf, hw]
      exact ⟨m - 1, by omega, k + 1, by omega, by simp only [minTo, hx]⟩
    · have hkl : k = l.length - 1 := by have := of_decide_eq_false h
                                        omega
      simp only [go_sem]
      rw [leastOf, hkl]
theorem C_IndexA (t : Tok) (hf : frB t = false) (l : List Int) (v : Int) (hl : l.length < 9223372036854775808) : AC Tryz.prog f_q79 [.sl t 1 (l.map aI), aI v] (.lit (.int .i64 (idxOf (fun x => v == x) l))) := by
  refine ac_q79 ?_ (Nat.le_add_left 2 17)
  simp only [go_sem, c_q79, aI]
  refine aw_loop (fun m E => ∃ k, k + m = l.length ∧ (∀ (j : Nat) (y : Int), j < k → l[j]? = some y → (v == y) = false) ∧ E = mkE [(0, .sl t 1 (l.map aI)), (1, aI v), (7, .lit (.int .i64 l.length)), (8, .lit (.int .i64 (k : Nat)))] []) l.length ?_ ?_
  · exact ⟨0, by omega, fun j y hj => absurd hj (Nat.not_lt_zero j), by simp only [go_sem, Int.ofNat_zero, aI]⟩
  · rintro m _ ⟨k, hk, hall, rfl⟩
    simp only [go_sem, aI]
    refine condX_of (fun h => ?_) (fun h => ?_)
    · have hkl : k < l.length := by simpa using h
      obtain ⟨x, hx⟩ : ∃ x, l[k]? = some x := ⟨l[k], List.getElem?_eq_getElem hkl⟩
      have hw := wrap_succ k (by omega)
      simp only [go_sem, h, hx, Int.toNat_natCast, Int.natCast_nonneg, aI, List.getElem?_map, avRow_some, hf]
      refine condX_of (fun hp => ?_) (fun hp => ?_)
      · simp only [go_sem, idxOf_some (p := fun x => v == x) hx hp hall]
      · simp only [go_sem, hw]
        refine ⟨m - 1, by omega, k + 1, by omega, fun j y hj hy => ?_, rfl⟩
        by_cases hjk : j = k
        · subst hjk
          rw [hx] at hy
          injection hy with hy
          rw [← hy]
          exact hp
        · exact hall j y (by omega) hy
    · have hkl : k = l.length := by have : ¬ k < l.length := by simpa using h
                                    omega
      have e : idxOf (fun x => v == x) l = -1 := idxOf_none fun i x hi => hall i x (by have := (List.getElem?_eq_some_iff.1 hi).1; omega) hi
      simp only [go_sem, h, e]
def leastAt (l : List Int) : Nat := (l.findIdx? fun x => leastOf l == x).getD 0
theorem leastAt_spec (l : List Int) (h : 0 < l.length) : leastAt l < l.length ∧ l[leastAt l]? = some (leastOf l) ∧ idxOf (fun x => leastOf l == x) l = (leastAt l : Nat) ∧
    (∀ (j : Nat) (x : Int), l[j]? = some x → leastOf l ≤ x) ∧ ∀ (j : Nat) (x : Int), j < leastAt l → l[j]? = some x → leastOf l < x := by
  have hle : ∀ (j : Nat) (x : Int), l[j]? = some x → leastOf l ≤ x := fun j x hx => minTo_le l (l.length - 1) j x (by have := (List.getElem?_eq_some_iff.1 hx).1; omega) hx
  obtain ⟨j, hj⟩ := minTo_mem l h (l.length - 1)
  cases hf : l.findIdx? fun x => leastOf l == x with
  | none =>
    exfalso
    rw [List.findIdx?_eq_none_iff] at hf
    have := hf _ (List.mem_of_getElem? hj)
    simp [leastOf] at this
  | some i =>
    have e : leastAt l = i := by rw [leastAt, hf]; rfl
    have e2 : idxOf (fun x => leastOf l == x) l = (i : Nat) := by rw [idxOf, hf]
    rw [List.findIdx?_eq_some_iff_getElem] at hf
    obtain ⟨hi, hp, hall⟩ := hf
    rw [e]
    refine ⟨hi, by rw [List.getElem?_eq_getElem hi]; congr 1; exact (by simpa using hp : leastOf l = l[i]).symm, e2, hle, fun j x hj hx => ?_⟩
    have h1 := hle j x hx
    have h2 := hall j hj
    obtain ⟨hjl, hjx⟩ := List.getElem?_eq_some_iff.1 hx
    rw [hjx] at h2
    have h3 : ¬ leastOf l = x := by simpa using h2
    omega
theorem C_Least (t : Tok) (hf : frB t = false) (l : List Int) (ht : lowTok t = t) (hl : l.length < 9223372036854775808) :
    AC Tryz.prog f_q46 [.sl t 1 (l.map aI)] (.tup [.lit (.int .i64 (if 0 < l.length then (leastAt l : Nat) else 0)), .lit (.bool (decide (0 < l.length)))]) := by
  refine ac_q46 ?_ (Nat.le_add_left 1 10)
  simp only [go_sem, c_q46]
  refine condX_of (fun h => ?_) (fun h => ?_)
  · have h0 : ¬ 0 < l.length := by have : (l.length : Int) = 0 := by simpa using h
                                   omega
    simp only [go_sem, h0]
  · have h0 : 0 < l.length := by have : ¬ (l.length : Int) = 0 := by simpa using h
                                 omega
    obtain ⟨_, _, hidx, _, _⟩ := leastAt_spec l h0
    simp only [go_sem, ht]
    refine callX_of (C_Min t hf l h0 hl) ?_
    simp only [go_sem, aI, ht]
    refine callX_of (C_IndexA t hf l (leastOf l) hl) ?_
    simp only [go_sem, hidx, h0]
end Go.Proofs.YtbgfkdpjnabhkaaGreatDoor.VL
end

section
set_option maxHeartbeats 4000000
namespace Go.Proofs.YtbgfkdpjnabhkaaGreatDoor.VL
open Go.RowKit Go.Proofs
def leastK (l : List Int) : Nat → Nat
  | 0 => 0
  | k + 1 => match l[k]?, l[leastK l k]? with
    | some a, some b => if a < b then k else leastK l k
    | _, _ => leastK l k
theorem leastK_le (l : List Int) : ∀ k, leastK l k ≤ k
  | 0 => Nat.le_refl _
  | k + 1 => by
    have := leastK_le l k
    simp only [leastK]
    split
    · split <;> omega
    · omega
theorem leastK_one {l : List Int} : leastK l 1 = 0 := by
  simp only [leastK]
  split
  · split <;> rfl
  · rfl
theorem leastK_spec (l : List Int) : ∀ k, k + 1 ≤ l.length → ∃ b, leastK l (k + 1) ≤ k ∧ l[leastK l (k + 1)]? = some b ∧ (∀ (j : Nat) (x : Int), j ≤ k → l[j]? = some x → b ≤ x) ∧ ∀ (j : Nat) (x : Int), j < leastK l (k + 1) → l[j]? = some x → b < x
  | 0, h => by
    have hx : l[0]? = some l[0] := List.getElem?_eq_getElem (by omega)
    refine ⟨l[0], by rw [leastK_one]; exact Nat.le_refl _, by rw [leastK_one]; exact hx, fun j x hj hjx => ?_, fun j x hj => ?_⟩
    · obtain rfl : j = 0 := by omega
      rw [hx] at hjx
      injection hjx with hjx
      omega
    · rw [leastK_one] at hj
      omega
  | k + 1, h => by
    obtain ⟨b, h1, h2, h3, h4⟩ := leastK_spec l k (by omega)
    have hx : l[k + 1]? = some l[k + 1] := List.getElem?_eq_getElem (by omega)
    have e : leastK l (k + 1 + 1) = if l[k + 1] < b then k + 1 else leastK l (k + 1) := by
      rw [leastK, hx, h2]
    rw [e]
    by_cases hlt : l[k + 1] < b
    · rw [if_pos hlt]
      refine ⟨_, Nat.le_refl _, hx, fun j x hj hjx => ?_, fun j x hj hjx => ?_⟩
      · by_cases hjk : j = k + 1
        · subst hjk
          rw [hx] at hjx
          injection hjx with hjx
          omega
        · have := h3 j x (by omega) hjx
          omega
      · have := h3 j x (by omega) hjx
        omega
    · rw [if_neg hlt]
      refine ⟨b, by omega, h2, fun j x hj hjx => ?_, h4⟩
      by_cases hjk : j = k + 1
      · subst hjk
        rw [hx] at hjx
        injection hjx with hjx
        omega
      · exact h3 j x (by omega) hjx
theorem leastK_at (l : List Int) (h : 0 < l.length) : leastK l l.length = leastAt l := by
  obtain ⟨k, hk⟩ : ∃ k, l.length = k + 1 := ⟨l.length - 1, by omega⟩
  obtain ⟨b, h1, h2, h3, h4⟩ := leastK_spec l k (by omega)
  obtain ⟨s1, s2, _, s3, s4⟩ := leastAt_spec l h
  rw [hk]
  have t1 := h3 (leastAt l) (leastOf l) (by omega) s2
  have t2 := s3 _ _ h2
  rcases Nat.lt_trichotomy (leastK l (k + 1)) (leastAt l) with hc | hc | hc
  · have := s4 _ _ hc h2
    omega
  · exact hc
  · have := h4 _ _ hc s2
    omega
def adW (w : NW) (p : Nat) : Int := match w.pts[p]? with | some x => (x.a : Int) | none => 0
def querW (w : NW) (k : Int) : Option Nat := (onW w k)[leastAt ((onW w k).map (adW w))]?
def QO (w : NW) (L : List Nat) (i : Nat) : Env := mkE [(0, .rp (topoV w)), (6, .sl .none 1 (L.map avI)), (7, rowO [32] 1 ((L.take i).map fun p => aI (adW w p))), (15, .sl .none 1 (L.map avI)), (16, .lit (.int .i64 (L.length : Nat))), (17, .lit (.int .i64 (i : Nat)))] []
theorem C_querOf (w : NW) (hf : w.Fit) (k : Int) : AC Tryz.prog f_q48 [.rp (topoV w), .lit (.int .i64 k)] (.tup [avI ((querW w k).getD 0), .lit (.bool (querW w k).isSome)]) := by
  refine ac_q48 ?_ (Nat.le_add_left 2 _)
  simp only [go_sem, c_q48]
  refine callX_of (C_On w hf k) ?_
  have hm := fun p (hp : p ∈ onW w k) => on_mem hp
  have hlen := onW_le w k
  have h3 := hf.l3
  simp only [go_sem, List.length_map]
  unfold querW
  generalize onW w k = L at *
  refine aw_loop (fun m E => ∃ i : Nat, i + m = L.length ∧ E = QO w L i) L.length ?_ ?_
  · exact ⟨0, by omega, rfl⟩
  · rintro m _ ⟨i, him, rfl⟩
    by_cases hil : i < L.length
    · have f1 : ((i : Int) < (L.length : Int)) = True := eq_true (by omega)
      have hw := wrap_succ i (by omega)
      obtain ⟨p, hp⟩ : ∃ p, L[i]? = some p := ⟨L[i], List.getElem?_eq_getElem hil⟩
      have hpl := hm p (List.mem_of_getElem? hp)
      obtain ⟨x, hx⟩ : ∃ x, w.pts[p]? = some x := ⟨w.pts[p], List.getElem?_eq_getElem hpl⟩
      have e1 := take_map_succ (fun p => aI (adW w p)) hp
      have hR : ((L.take i).map fun p => aI (adW w p)).length ≤ 4294967295 := by
        rw [List.length_map, List.length_take]
        omega
      have hrI := fun x => avRow_some 1 .none (AV.lit x) rfl
      have hb : adW w p = (x.a : Int) := by simp [adW, hx]
      simp only [hb, aI] at e1 hR
      simp only [QO, aI]
      generalize ((L.take i).map fun p => AV.lit (.int .u32 (adW w p))) = R at *
      cases R with
      | nil =>
        have ea : ∀ s c, avApp 1 4 [] 32 s c (.sl .nil 0 []) (.sl (.own [31]) 1 [.lit (.int .u32 (x.a : Int))]) = _ := fun s c => avApp_nil (d := 32) (s := s) (c := c) 1 4 0 [] [] [.lit (.int .u32 (x.a : Int))] (.own [31]) (by simp) (by decide)
        simp only [go_sem, rowO_nil, f1, decide_true, avI, Int.natCast_nonneg, Int.toNat_natCast, List.getElem?_map, hp, hrI, Option.map_some]
        refine callX_of (C_Raw w) ?_
        simp only [go_sem, netV, Int.natCast_nonneg, Int.toNat_natCast, List.getElem?_map, hx, Option.map_some, rowAgg, avPort, avU]
        simp only [go_sem, ea, hw]
        exact ⟨m - 1, by omega, i + 1, by omega, by simp only [QO, aI, e1]; rfl⟩
      | cons z zs =>
        have ea : ∀ s c, avApp 1 4 [] 32 s c (.sl (.own [32]) 1 (z :: zs)) (.sl (.own [31]) 1 [.lit (.int .u32 (x.a : Int))]) = _ := fun s c => avApp_own (d := 32) (s := s) (c := c) 1 4 [] [32] (z :: zs) [.lit (.int .u32 (x.a : Int))] (.own [31]) (by simp at hR ⊢; omega) (by decide) rfl
        simp only [go_sem, rowO_cons, f1, decide_true, avI, Int.natCast_nonneg, Int.toNat_natCast, List.getElem?_map, hp, hrI, Option.map_some]
        refine callX_of (C_Raw w) ?_
        simp only [go_sem, netV, Int.natCast_nonneg, Int.toNat_natCast, List.getElem?_map, hx, Option.map_some, rowAgg, avPort, avU]
        simp only [go_sem, ea, hw]
        exact ⟨m - 1, by omega, i + 1, by omega, by simp only [QO, aI, e1]; rfl⟩
    · have f1 : ((i : Int) < (L.length : Int)) = False := eq_false (by omega)
      have e : L.take i = L := List.take_of_length_le (by omega)
      simp only [QO, e]
      rw [show (L.map fun p => aI (adW w p)) = (L.map (adW w)).map aI by rw [List.map_map]; rfl]
      by_cases h0 : L = []
      · subst h0
        have hB := (C_Least .none rfl [] rfl (by decide)).nil (e := 0) [] (by simp)
        have f0 : ((i : Int) < ((0 : Nat) : Int)) = False := eq_false (by omega)
        simp only [go_sem, List.map_nil, rowO_nil, f0, decide_false, List.length_nil]
        refine callX_of hB ?_
        simp only [go_sem, Nat.lt_irrefl, decide_false]
        rfl
      · have hpos : 0 < L.length := List.length_pos_iff.2 h0
        have hB := C_Least .none rfl (L.map (adW w)) rfl (by rw [List.length_map]; omega)
        obtain ⟨hlt, _⟩ := leastAt_spec (L.map (adW w)) (by rw [List.length_map]; exact hpos)
        rw [List.length_map] at hB hlt
        obtain ⟨q, hq⟩ : ∃ q, L[leastAt (L.map (adW w))]? = some q := ⟨_, List.getElem?_eq_getElem hlt⟩
        have er : rowO [32] 1 ((L.map (adW w)).map aI) = .sl (.own [32]) 1 ((L.map (adW w)).map aI) := rowO_ne (by simpa using h0)
        have hrI := fun x => avRow_some 1 .none (AV.lit x) rfl
        simp only [hpos, if_true] at hB
        simp only [go_sem, er, f1, decide_false]
        refine callX_of hB ?_
        simp only [go_sem, hpos, decide_true, hq, avI, Int.natCast_nonneg, Int.toNat_natCast, List.getElem?_map, hrI, Option.map_some, Option.getD_some, Option.isSome_some]
theorem avMm_max0 (k : IntKind) (b : Int) : avMm true [.lit (.int k 0), .lit (.int k b)] = some (.lit (.int k (if b > 0 then b else 0))) := by
  simp [avMm, aval.litOf, Builtin.max_, Builtin.max2, p0, Pure.pure, Bind.bind, Sem.bind]
def leastJ (l : List Int) : Nat → Int
  | 0 => -1
  | i + 1 => ((leastK l (i + 1) : Nat) : Int)
def leastP (A : List Int) (L : List Nat) : Nat → Int
  | 0 => -1
  | i + 1 => match L[leastK A (i + 1)]? with | some p => (p : Int) | none => -1
theorem C_QuerSays (l : List Int) (u : Int × Int) (own : Int) (w : NW) (h : w.OK) (k : Int) : AC Tryz.prog f_q6 [.sl .none 1 (l.map aI), avT u, aI own, .agg (netV w), .lit (.int .i64 k)] (.lit (.bool true)) := by
  refine ac_q6 ?_ (Nat.le_add_left 5 _)
  simp only [go_sem, c_q6, avT, low_net, one_net, len_net, take_net, Nat.le_refl]
  refine callX_of C_first13 ?_
  by_cases h20 : 20 < l.length
  · have f1 : ((20 : Int) < (l.length : Int)) = True := eq_true (by omega)
    have f2 : ((l.length : Int) > 20) = True := eq_true (by omega)
    simp only [go_sem, List.length_map, f1, f2, decide_true]
  have f1 : ((20 : Int) < (l.length : Int)) = False := eq_false (by omega)
  have f2 : ((l.length : Int) > 20) = False := eq_false (by omega)
  simp only [go_sem, List.length_map, f1, f2, decide_false, low_net, one_net, len_net, take_net, Nat.le_refl]
  refine callX_of (C_Light w h 8) ?_
  cases hL : lightN w 8
  · simp only [go_sem]
  have lo := lightN_iff.1 hL
  have hv := lo.v
  have hf := vfit hv
  by_cases u1 : (1099511627776 : Int) < u.2
  · have f3 : ((1099511627776 : Int) < u.2) = True := eq_true u1
    simp only [go_sem, f3, decide_true]
  have f3 : ((1099511627776 : Int) < u.2) = False := eq_false u1
  by_cases u2 : u.2 < (-1099511627776 : Int)
  · have f4 : (u.2 < (-1099511627776 : Int)) = True := eq_true u2
    simp only [go_sem, f3, f4, decide_false, decide_true]
  have f4 : (u.2 < (-1099511627776 : Int)) = False := eq_false u2
  simp only [go_sem, f3, f4, decide_false]
  refine aw_loop (fun m E => ∃ i : Nat, i + m = l.length ∧ E = mkE [(0, .sl .none 1 (l.map aI)), (2, aI own), (4, .lit (.int .i64 k)), (6, .lp 6 0), (8, .lp 8 0), (12, .lit (.int .i64 (leastJ l i))), (13, .lit (.bool ((l.take i).any fun a => decide (a < own)))), (14, .lit (.int .i64 (i : Nat)))] [(6, [.lit (.int .i64 u.1), .lit (.int .i64 u.2)]), (8, netV w)]) l.length ?_ ?_
  · exact ⟨0, by omega, by simp only [go_sem, leastJ, Int.natCast_zero, List.take_zero, List.any_nil, aI]⟩
  · rintro m _ ⟨i, him, rfl⟩
    have hrI := fun x => avRow_some 1 .none (AV.lit x) rfl
    by_cases hil : i < l.length
    · have g1 : ((i : Int) < (l.length : Int)) = True := eq_true (by omega)
      have hw := wrap_succ i (by omega)
      obtain ⟨a, ha⟩ : ∃ a, l[i]? = some a := ⟨l[i], List.getElem?_eq_getElem hil⟩
      have ht := any_take_succ (fun a : Int => decide (a < own)) ha
      cases i with
      | zero =>
        have n1 : ((-1 : Int) < 0) = True := eq_true (by decide)
        have e1 : leastJ l (0 + 1) = 0 := by simp only [leastJ, Nat.zero_add, leastK_one]; rfl
        have z1 : ((0 : Nat) : Int) = 0 := rfl
        simp only [List.take_zero, List.any_nil, Bool.false_or] at ht
        rw [z1] at g1 hw
        have e0 : leastJ l 0 = -1 := rfl
        simp only [go_sem, e0, n1, g1, z1, List.take_zero, List.any_nil, List.length_map, decide_true, Int.le_refl, Int.toNat_zero, List.getElem?_map, ha, Option.map_some, hrI, hw]
        exact ⟨m - 1, by omega, 0 + 1, by omega, by rw [e1, ht]⟩
      | succ j =>
        have hbl := leastK_le l (j + 1)
        obtain ⟨q, hq⟩ : ∃ q, l[leastK l (j + 1)]? = some q := ⟨l[leastK l (j + 1)]'(by omega), List.getElem?_eq_getElem (by omega)⟩
        have e2 : leastK l (j + 1 + 1) = if a < q then j + 1 else leastK l (j + 1) := by
          rw [leastK, ha, hq]
        have n1 : (((leastK l (j + 1) : Nat) : Int) < 0) = False := eq_false (by omega)
        have n2 := Int.natCast_nonneg (leastK l (j + 1))
        have e0 : leastJ l (j + 1) = ((leastK l (j + 1) : Nat) : Int) := rfl
        by_cases hlt : a < q
        · have g2 : (a < q) = True := eq_true hlt
          rw [if_pos hlt] at e2
          cases hb : (l.take (j + 1)).any fun a => decide (a < own)
          all_goals
            rw [hb] at ht
            simp only [go_sem, e0, n1, g1, g2, List.length_map, decide_true, decide_false, Int.natCast_nonneg, Int.toNat_natCast, List.getElem?_map, ha, hq, Option.map_some, hrI, hw]
            refine ⟨m - 1, by omega, j + 1 + 1, by omega, ?_⟩
            rw [ht]
            simp only [leastJ, e2, Bool.true_or, Bool.false_or]
        · have g2 : (a < q) = False := eq_false hlt
          rw [if_neg hlt] at e2
          cases hb : (l.take (j + 1)).any fun a => decide (a < own)
          all_goals
            rw [hb] at ht
            simp only [go_sem, e0, n1, g1, g2, List.length_map, decide_true, decide_false, Int.natCast_nonneg, Int.toNat_natCast, List.getElem?_map, ha, hq, Option.map_some, hrI, hw]
            refine ⟨m - 1, by omega, j + 1 + 1, by omega, ?_⟩
            rw [ht]
            simp only [leastJ, e2, Bool.true_or, Bool.false_or]
    · have g1 : ((i : Int) < (l.length : Int)) = False := eq_false (by omega)
      have e : i = l.length := by omega
      subst e
      have hSt := C_Step u own .none rfl l (by omega) rfl
      simp only [avT] at hSt
      have hLe := C_Least .none rfl l rfl (by omega)
      have hQo := C_querOf w hf k
      have hOn := C_rOn w hf k
      rw [onZ_eq hv] at hOn
      have hm := fun p (hp : p ∈ onW w k) => on_mem hp
      have hwu : IntKind.wrap .i64 (u.2 - 1) = u.2 - 1 := iw _ (by omega) (by omega)
      have key : ∃ ba : Nat, (if 0 < l.length then ((leastAt l : Nat) : Int) else 0) = (ba : Int) ∧ ((decide (0 < l.length) = false ∧ leastJ l l.length = -1) ∨ (decide (0 < l.length) = true ∧ leastJ l l.length = (ba : Int))) := by
        cases hl : l with
        | nil => exact ⟨0, rfl, .inl ⟨rfl, rfl⟩⟩
        | cons a l' =>
          rw [← hl]
          have hpos : 0 < l.length := by rw [hl]; simp
          refine ⟨leastAt l, if_pos hpos, .inr ⟨by simpa using hpos, ?_⟩⟩
          rw [← leastK_at l hpos, hl]
          rfl
      have hN := C_New w h hf hv
      have hfin : leastP ((onW w k).map (adW w)) (onW w k) (onW w k).length = (match querW w k with | some p => (p : Int) | none => -1) := by
        unfold querW
        cases hL : onW w k with
        | nil => simp [leastP]
        | cons p L =>
          have hAt := leastK_at ((p :: L).map (adW w)) (by simp)
          rw [List.length_map] at hAt
          simp only [leastP, List.length_cons] at hAt ⊢
          rw [hAt]
      have hlen := onW_le w k
      have h3 := hf.l3
      generalize onW w k = L at *
      generalize hA : L.map (adW w) = A at *
      have hAL : A.length = L.length := by rw [← hA, List.length_map]
      generalize querW w k = qq at *
      obtain ⟨ba, eb, key⟩ := key
      rw [eb] at hLe
      generalize leastJ l l.length = bj at *
      have step : (l.any (fun a => decide (a < own)) = true ∧ stepQ u own l = (0, 3)) ∨ (l.any (fun a => decide (a < own)) = false ∧ 1 < u.2 ∧ stepQ u own l = (0, u.2 - 1)) ∨ (l.any (fun a => decide (a < own)) = false ∧ ¬ 1 < u.2 ∧ stepQ u own l = (1, 0)) := by
        unfold stepQ
        cases hb : l.any fun a => decide (a < own)
        · by_cases hu : 1 < u.2
          · exact .inr (.inl ⟨rfl, hu, by rw [if_neg (by simp), if_pos hu, hwu]⟩)
          · exact .inr (.inr ⟨rfl, hu, by rw [if_neg (by simp), if_neg hu]⟩)
        · exact .inl ⟨rfl, by simp⟩
      have m1 : (0 ≤ (-1 : Int)) = False := eq_false (by decide)
      have m2 : (0 ≤ (ba : Int)) = True := eq_true (by omega)
      have b0 : ∀ x : Int, (x != x) = false := fun x => by simp
      have kff : (false == false) = true := rfl
      have ktt : (true == true) = true := rfl
      simp only [go_sem, List.length_map, List.take_length, g1, decide_false]
      refine callX_of hLe ?_
      simp only [go_sem]
      refine callX_of hSt ?_
      generalize decide (0 < l.length) = d at *
      rcases step with ⟨hb, hs⟩ | ⟨hb, hu, hs⟩ | ⟨hb, hu, hs⟩
      rw [hs, hb]
      simp only [go_sem, low_net, one_net, len_net, take_net, Nat.le_refl]
      rotate_left
      rw [hs, hb]
      have y1 : (u.2 - 1 > 0) = True := eq_true (by omega)
      have y2 : (u.2 - 1 == 0) = false := by simp; omega
      simp only [go_sem, hwu, avMm_max0, y1, y2, low_net, one_net, len_net, take_net, Nat.le_refl]
      rotate_left
      rw [hs, hb]
      have y1 : (u.2 - 1 > 0) = False := eq_false (by omega)
      have y2 : ((0 : Int) == 0) = true := rfl
      simp only [go_sem, hwu, avMm_max0, y1, y2, low_net, one_net, len_net, take_net, Nat.le_refl]
      rotate_left
      all_goals
        refine callX_of hN ?_
        rcases key with ⟨rfl, rfl⟩ | ⟨rfl, rfl⟩
      all_goals
        simp only [go_sem, m1, m2, b0, kff, ktt, decide_true, decide_false]
        refine callX_of hQo ?_
        simp only [go_sem, low_net, one_net, len_net, take_net, Nat.le_refl]
        refine callX_of hOn ?_
        simp only [go_sem]
        refine aw_loop (fun m E => ∃ (i : Nat) (v1 v2 : Int), i + m = L.length ∧ E = mkE [(8, .lp 8 0), (21, avI (qq.getD 0)), (22, .lit (.bool qq.isSome)), (23, .lit (.int .i64 (leastP A L i))), (24, .sl .none 1 (L.map avI)), (25, .lit (.int .i64 (i : Nat)))] [(6, [.lit (.int .i64 u.1), .lit (.int .i64 u.2)]), (8, netV w), (17, [.lit (.int .i64 v1), .lit (.int .i64 v2)]), (18, [.lit (.int .i64 v1), .lit (.int .i64 v2)])]) L.length ?_ ?_
        · exact ⟨0, _, _, by omega, rfl⟩
        · rintro m _ ⟨i, v1, v2, him, rfl⟩
          by_cases hil : i < L.length
          · have g1 : ((i : Int) < (L.length : Int)) = True := eq_true (by omega)
            have hw := wrap_succ i (by omega)
            obtain ⟨p, hp⟩ : ∃ p, L[i]? = some p := ⟨L[i], List.getElem?_eq_getElem hil⟩
            have hpl := hm p (List.mem_of_getElem? hp)
            obtain ⟨x, hx⟩ : ∃ x, w.pts[p]? = some x := ⟨w.pts[p], List.getElem?_eq_getElem hpl⟩
            have hap : A[i]? = some (x.a : Int) := by rw [← hA, List.getElem?_map, hp]; simp [adW, hx]
            cases i with
            | zero =>
              have n1 : ((-1 : Int) < 0) = True := eq_true (by decide)
              have e0 : leastP A L 0 = -1 := rfl
              have e1 : leastP A L (0 + 1) = (p : Int) := by simp only [leastP, Nat.zero_add, leastK_one, hp]
              have z1 : ((0 : Nat) : Int) = 0 := rfl
              rw [z1] at g1 hw
              simp only [go_sem, e0, z1, n1, List.length_map, g1, decide_true, Int.le_refl, Int.toNat_zero, List.getElem?_map, hp, Option.map_some, hrI, avI, hw]
              exact ⟨m - 1, by omega, 0 + 1, v1, v2, by omega, by rw [e1]⟩
            | succ j =>
              have hbl := leastK_le A (j + 1)
              obtain ⟨q, hq⟩ : ∃ q, L[leastK A (j + 1)]? = some q := ⟨L[leastK A (j + 1)]'(by omega), List.getElem?_eq_getElem (by omega)⟩
              have hql := hm q (List.mem_of_getElem? hq)
              obtain ⟨y, hy⟩ : ∃ y, w.pts[q]? = some y := ⟨w.pts[q], List.getElem?_eq_getElem hql⟩
              have haq : A[leastK A (j + 1)]? = some (y.a : Int) := by
                have := List.getElem?_map (f := adW w) (l := L) (i := leastK A (j + 1))
                rw [hA, hq] at this
                rw [this]
                simp [adW, hy]
              have e0 : leastP A L (j + 1) = (q : Int) := by simp only [leastP, hq]
              have e2 : leastK A (j + 1 + 1) = if (x.a : Int) < (y.a : Int) then j + 1 else leastK A (j + 1) := by
                rw [leastK, hap, haq]
              have n1 : ((q : Int) < 0) = False := eq_false (by omega)
              by_cases hlt : (x.a : Int) < (y.a : Int)
              · have g2 : ((x.a : Int) < (y.a : Int)) = True := eq_true hlt
                rw [if_pos hlt] at e2
                simp only [go_sem, e0, n1, g1, g2, netV, List.length_map, decide_true, decide_false, Int.natCast_nonneg, Int.toNat_natCast, List.getElem?_map, hp, hx, hy, Option.map_some, rowAgg, avPort, avU, hrI, avI, hw]
                exact ⟨m - 1, by omega, j + 1 + 1, v1, v2, by omega, by simp only [leastP, e2, hp, netV]⟩
              · have g2 : ((x.a : Int) < (y.a : Int)) = False := eq_false hlt
                rw [if_neg hlt] at e2
                simp only [go_sem, e0, n1, g1, g2, netV, List.length_map, decide_true, decide_false, Int.natCast_nonneg, Int.toNat_natCast, List.getElem?_map, hp, hx, hy, Option.map_some, rowAgg, avPort, avU, hrI, avI, hw]
                exact ⟨m - 1, by omega, j + 1 + 1, v1, v2, by omega, by simp only [leastP, e2, hq, netV]⟩
          · have g1 : ((i : Int) < (L.length : Int)) = False := eq_false (by omega)
            have e : i = L.length := by omega
            subst e
            rw [hfin]
            cases qq with
            | none => simp only [go_sem, g1, m1, List.length_map, decide_false, kff, Option.isSome_none, Option.getD_none]
            | some p =>
              have n2 : (0 ≤ (p : Int)) = True := eq_true (by omega)
              simp only [go_sem, g1, n2, List.length_map, decide_false, decide_true, ktt, avI, Option.isSome_some, Option.getD_some]
end Go.Proofs.YtbgfkdpjnabhkaaGreatDoor.VL
end

section
namespace Go.Proofs.YtbgfkdpjnabhkaaGreatDoor
open Go.RowKit VL
theorem fit_turn {cs : List AV} (h : FitL [.int .i64, .int .i64] cs) : ∃ x : Int × Int, mkRow true cs = avT x := by
  simp only [FitL, Fit] at h
  obtain ⟨_, _, rfl, ⟨a, rfl, _⟩, _, _, rfl, ⟨b, rfl, _⟩, rfl⟩ := h
  exact ⟨(a, b), rfl⟩
theorem C_QuerSaysN (l : List Nat) (u : Int × Int) (own : Nat) (w : NW) (h : w.OK) (k : Int) : AC Tryz.prog f_q6 [.sl .none 1 (l.map avU), avT u, avU own, .agg (netV w), .lit (.int .i64 k)] (.lit (.bool true)) := by
  have e : l.map avU = (l.map fun n : Nat => (n : Int)).map aI := by
    rw [List.map_map]
    rfl
  rw [e]
  exact C_QuerSays _ u own w h k
end Go.Proofs.YtbgfkdpjnabhkaaGreatDoor
end

