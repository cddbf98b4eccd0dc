/- rivuletlaw1.AddrBytes: the walk. -/
import Derived.Test.YtodnphnbnneegaaDoorAddr2
import Derived.Test.YtodnphnbnneegaaDoorWorld
set_option linter.unusedVariables false
set_option linter.unusedSimpArgs false
set_option maxHeartbeats 4000000
namespace Go.Proofs.YtodnphnbnneegaaDoor.VL
open Go.RowKit Go.Proofs

/-- Which of two byte rows is less, looked at from a place on. -/
def lessB (x y : Nat → Nat) : Nat → Nat → Bool
  | _, 0 => false
  | k, n + 1 => if x k < y k then true else if x k = y k then lessB x y (k + 1) n else false

def bys (x : Nat → Nat) : List AV := [avB (x 0), avB (x 1), avB (x 2), avB (x 3)]
def zat (x : Nat → Nat) (k v : Nat) : Nat → Nat := fun i => if i = k then v else x i
def iK (k : Nat) : AV := .lit (.int .i64 ((k : Int) - 1))

theorem ofB4 (z : Nat → Nat) : ofB z 4 = z 0 * 16777216 + z 1 * 65536 + z 2 * 256 + z 3 := by simp only [ofB]; omega
theorem bytN_ofB (z : Nat → Nat) (hz : ∀ i, i < 4 → z i < 256) (i : Nat) (hi : i < 4) : bytN (ofB z 4) i = z i := by
  have h0 := hz 0 (by decide)
  have h1 := hz 1 (by decide)
  have h2 := hz 2 (by decide)
  have h3 := hz 3 (by decide)
  rw [ofB4]
  match i, hi with
  | 0, _ => simp only [bytN, Nat.sub_zero, Nat.reduceSub, Nat.reduceMul, Nat.reducePow]; omega
  | 1, _ => simp only [bytN, Nat.sub_zero, Nat.reduceSub, Nat.reduceMul, Nat.reducePow]; omega
  | 2, _ => simp only [bytN, Nat.sub_zero, Nat.reduceSub, Nat.reduceMul, Nat.reducePow]; omega
  | 3, _ => simp only [bytN, Nat.sub_zero, Nat.reduceSub, Nat.reduceMul, Nat.reducePow, Nat.div_one]; omega
theorem lessB_ofB (x y : Nat → Nat) (hx : ∀ i, i < 4 → x i < 256) (hy : ∀ i, i < 4 → y i < 256) : lessB x y 0 4 = decide (ofB x 4 < ofB y 4) := by
  have h0 := hx 0 (by decide)
  have h1 := hx 1 (by decide)
  have h2 := hx 2 (by decide)
  have h3 := hx 3 (by decide)
  have g0 := hy 0 (by decide)
  have g1 := hy 1 (by decide)
  have g2 := hy 2 (by decide)
  have g3 := hy 3 (by decide)
  rw [ofB4, ofB4]
  simp only [lessB, Nat.reduceAdd]
  repeat' split
  all_goals (symm; simp only [decide_eq_true_eq, decide_eq_false_iff_not]; omega)
theorem ofB_congr {z w : Nat → Nat} (h : ∀ i, i < 4 → z i = w i) : ofB z 4 = ofB w 4 := by
  rw [ofB4, ofB4, h 0 (by decide), h 1 (by decide), h 2 (by decide), h 3 (by decide)]

theorem AC_AddrBytes (a b : Nat) (n0 : Int) (by0 : Nat) (ha : a < 4294967296) (hb : b < 4294967296) (hby : by0 < 256) : AC Tryd.prog f_rivuletlaw1_AddrBytes [avU a, avU b, .lit (.int .i64 n0), avB by0] (.lit (.bool true)) := by
  refine ac_rivuletlaw1_AddrBytes ?_ (Nat.le_add_left 4 _)
  simp only [go_sem, Nat.reduceAdd, Nat.reduceLT, Nat.reduceEqDiff, Nat.reduceBEq, Nat.reduceLeDiff, Nat.reduceSub, Int.reduceToNat, reduceCtorEq, ↓reduceIte, c_rivuletlaw1_AddrBytes]
  refine callX_of C_first1 ?_
  simp only [go_sem, Nat.reduceAdd, Nat.reduceLT, Nat.reduceEqDiff, Nat.reduceBEq, Nat.reduceLeDiff, Nat.reduceSub, Int.reduceToNat, reduceCtorEq, ↓reduceIte]
  refine callX_of (C_Bytes a ha) ?_
  simp only [go_sem, Nat.reduceAdd, Nat.reduceLT, Nat.reduceEqDiff, Nat.reduceBEq, Nat.reduceLeDiff, Nat.reduceSub, Int.reduceToNat, reduceCtorEq, ↓reduceIte, avBytes, avB]
  refine callX_of (C_Bytes b hb) ?_
  simp only [go_sem, Nat.reduceAdd, Nat.reduceLT, Nat.reduceEqDiff, Nat.reduceBEq, Nat.reduceLeDiff, Nat.reduceSub, Int.reduceToNat, reduceCtorEq, ↓reduceIte, avBytes, avB]
  generalize hx : bytN a = x
  generalize hy : bytN b = y
  refine aw_loop (fun m E => ∃ k : Nat, m = k ∧ k ≤ 4 ∧ E = mkE [(0, avU a), (1, avU b), (2, .lit (.int .i64 n0)), (3, avB by0), (9, .lit (.bool true)), (10, .lp 10 0), (11, .lp 11 0), (12, .lit (.bool (lessB x y k (4 - k)))), (13, iK k)] [(10, bys x), (11, bys y)]) 4 ?_ ?_
  · exact ⟨4, rfl, by omega, by simp only [go_sem, Nat.reduceAdd, Nat.reduceLT, Nat.reduceEqDiff, Nat.reduceBEq, Nat.reduceLeDiff, Nat.reduceSub, Int.reduceToNat, reduceCtorEq, ↓reduceIte]; rfl⟩
  · rintro m _ ⟨k, rfl, hk, rfl⟩
    have w3 : IntKind.i64.wrap (3 - 1) = 2 := by decide
    have d : ∀ j, (x j < y j ∧ ((x j : Int) < (y j : Int)) = True) ∨ (¬ x j < y j ∧ ((x j : Int) < (y j : Int)) = False ∧ x j = y j ∧ ((x j : Int) == (y j : Int)) = true) ∨ (¬ x j < y j ∧ ((x j : Int) < (y j : Int)) = False ∧ ¬ x j = y j ∧ ((x j : Int) == (y j : Int)) = false) := by
      intro j
      rcases Nat.lt_trichotomy (x j) (y j) with h | h | h
      · exact .inl ⟨h, eq_true (by omega)⟩
      · exact .inr (.inl ⟨by omega, eq_false (by omega), h, by rw [h]; simp⟩)
      · exact .inr (.inr ⟨by omega, eq_false (by omega), by omega, by simp only [beq_eq_false_iff_ne, ne_eq]; omega⟩)
    match m, hk with
    | 4, _ =>
      rcases d 3 with ⟨e1, e2⟩ | ⟨e1, e2, e3, e4⟩ | ⟨e1, e2, e3, e4⟩
      · have hv : lessB x y 3 (4 - 3) = true := by rw [show 4 - 3 = 0 + 1 from rfl, lessB, if_pos e1]
        simp only [go_sem, Nat.reduceAdd, Nat.reduceLT, Nat.reduceEqDiff, Nat.reduceBEq, Nat.reduceLeDiff, Nat.reduceSub, Int.reduceToNat, reduceCtorEq, ↓reduceIte, iK, bys, avB, e2, Int.reduceSub, Int.reduceLE, Int.reduceLT, Int.reduceMul, Int.reduceAdd, Nat.reduceMul, decide_true, decide_false, v0, v1, v2, v3, v4, c0, c1, c2, c3, c4]
        exact ⟨3, by omega, 3, rfl, by omega, by rw [hv]; rfl⟩
      · have hv : lessB x y 3 (4 - 3) = lessB x y 4 (4 - 4) := by simp only [Nat.reduceSub, lessB, e1, e3, if_false, if_true, Nat.lt_irrefl]
        simp only [go_sem, Nat.reduceAdd, Nat.reduceLT, Nat.reduceEqDiff, Nat.reduceBEq, Nat.reduceLeDiff, Nat.reduceSub, Int.reduceToNat, reduceCtorEq, ↓reduceIte, iK, bys, avB, e2, e4, Int.reduceSub, Int.reduceLE, Int.reduceLT, Int.reduceMul, Int.reduceAdd, Nat.reduceMul, decide_true, decide_false, v0, v1, v2, v3, v4, c0, c1, c2, c3, c4]
        exact ⟨3, by omega, 3, rfl, by omega, by rw [hv]; rfl⟩
      · have hv : lessB x y 3 (4 - 3) = false := by rw [show 4 - 3 = 0 + 1 from rfl, lessB, if_neg e1, if_neg e3]
        simp only [go_sem, Nat.reduceAdd, Nat.reduceLT, Nat.reduceEqDiff, Nat.reduceBEq, Nat.reduceLeDiff, Nat.reduceSub, Int.reduceToNat, reduceCtorEq, ↓reduceIte, iK, bys, avB, e2, e4, Int.reduceSub, Int.reduceLE, Int.reduceLT, Int.reduceMul, Int.reduceAdd, Nat.reduceMul, decide_true, decide_false, v0, v1, v2, v3, v4, c0, c1, c2, c3, c4]
        exact ⟨3, by omega, 3, rfl, by omega, by rw [hv]; rfl⟩
    | 3, _ =>
      rcases d 2 with ⟨e1, e2⟩ | ⟨e1, e2, e3, e4⟩ | ⟨e1, e2, e3, e4⟩
      · have hv : lessB x y 2 (4 - 2) = true := by rw [show 4 - 2 = 1 + 1 from rfl, lessB, if_pos e1]
        simp only [go_sem, Nat.reduceAdd, Nat.reduceLT, Nat.reduceEqDiff, Nat.reduceBEq, Nat.reduceLeDiff, Nat.reduceSub, Int.reduceToNat, reduceCtorEq, ↓reduceIte, iK, bys, avB, e2, Int.reduceSub, Int.reduceLE, Int.reduceLT, Int.reduceMul, Int.reduceAdd, Nat.reduceMul, decide_true, decide_false, v0, v1, v2, v3, v4, c0, c1, c2, c3, c4]
        exact ⟨2, by omega, 2, rfl, by omega, by rw [hv]; rfl⟩
      · have hv : lessB x y 2 (4 - 2) = lessB x y 3 (4 - 3) := by rw [show 4 - 2 = 1 + 1 from rfl, lessB, if_neg e1, if_pos e3]
        simp only [go_sem, Nat.reduceAdd, Nat.reduceLT, Nat.reduceEqDiff, Nat.reduceBEq, Nat.reduceLeDiff, Nat.reduceSub, Int.reduceToNat, reduceCtorEq, ↓reduceIte, iK, bys, avB, e2, e4, Int.reduceSub, Int.reduceLE, Int.reduceLT, Int.reduceMul, Int.reduceAdd, Nat.reduceMul, decide_true, decide_false, v0, v1, v2, v3, v4, c0, c1, c2, c3, c4]
        exact ⟨2, by omega, 2, rfl, by omega, by rw [hv]; rfl⟩
      · have hv : lessB x y 2 (4 - 2) = false := by rw [show 4 - 2 = 1 + 1 from rfl, lessB, if_neg e1, if_neg e3]
        simp only [go_sem, Nat.reduceAdd, Nat.reduceLT, Nat.reduceEqDiff, Nat.reduceBEq, Nat.reduceLeDiff, Nat.reduceSub, Int.reduceToNat, reduceCtorEq, ↓reduceIte, iK, bys, avB, e2, e4, Int.reduceSub, Int.reduceLE, Int.reduceLT, Int.reduceMul, Int.reduceAdd, Nat.reduceMul, decide_true, decide_false, v0, v1, v2, v3, v4, c0, c1, c2, c3, c4]
        exact ⟨2, by omega, 2, rfl, by omega, by rw [hv]; rfl⟩
    | 2, _ =>
      rcases d 1 with ⟨e1, e2⟩ | ⟨e1, e2, e3, e4⟩ | ⟨e1, e2, e3, e4⟩
      · have hv : lessB x y 1 (4 - 1) = true := by rw [show 4 - 1 = 2 + 1 from rfl, lessB, if_pos e1]
        simp only [go_sem, Nat.reduceAdd, Nat.reduceLT, Nat.reduceEqDiff, Nat.reduceBEq, Nat.reduceLeDiff, Nat.reduceSub, Int.reduceToNat, reduceCtorEq, ↓reduceIte, iK, bys, avB, e2, Int.reduceSub, Int.reduceLE, Int.reduceLT, Int.reduceMul, Int.reduceAdd, Nat.reduceMul, decide_true, decide_false, v0, v1, v2, v3, v4, c0, c1, c2, c3, c4]
        exact ⟨1, by omega, 1, rfl, by omega, by rw [hv]; rfl⟩
      · have hv : lessB x y 1 (4 - 1) = lessB x y 2 (4 - 2) := by rw [show 4 - 1 = 2 + 1 from rfl, lessB, if_neg e1, if_pos e3]
        simp only [go_sem, Nat.reduceAdd, Nat.reduceLT, Nat.reduceEqDiff, Nat.reduceBEq, Nat.reduceLeDiff, Nat.reduceSub, Int.reduceToNat, reduceCtorEq, ↓reduceIte, iK, bys, avB, e2, e4, Int.reduceSub, Int.reduceLE, Int.reduceLT, Int.reduceMul, Int.reduceAdd, Nat.reduceMul, decide_true, decide_false, v0, v1, v2, v3, v4, c0, c1, c2, c3, c4]
        exact ⟨1, by omega, 1, rfl, by omega, by rw [hv]; rfl⟩
      · have hv : lessB x y 1 (4 - 1) = false := by rw [show 4 - 1 = 2 + 1 from rfl, lessB, if_neg e1, if_neg e3]
        simp only [go_sem, Nat.reduceAdd, Nat.reduceLT, Nat.reduceEqDiff, Nat.reduceBEq, Nat.reduceLeDiff, Nat.reduceSub, Int.reduceToNat, reduceCtorEq, ↓reduceIte, iK, bys, avB, e2, e4, Int.reduceSub, Int.reduceLE, Int.reduceLT, Int.reduceMul, Int.reduceAdd, Nat.reduceMul, decide_true, decide_false, v0, v1, v2, v3, v4, c0, c1, c2, c3, c4]
        exact ⟨1, by omega, 1, rfl, by omega, by rw [hv]; rfl⟩
    | 1, _ =>
      rcases d 0 with ⟨e1, e2⟩ | ⟨e1, e2, e3, e4⟩ | ⟨e1, e2, e3, e4⟩
      · have hv : lessB x y 0 (4 - 0) = true := by rw [show 4 - 0 = 3 + 1 from rfl, lessB, if_pos e1]
        simp only [go_sem, Nat.reduceAdd, Nat.reduceLT, Nat.reduceEqDiff, Nat.reduceBEq, Nat.reduceLeDiff, Nat.reduceSub, Int.reduceToNat, reduceCtorEq, ↓reduceIte, iK, bys, avB, e2, Int.reduceSub, Int.reduceLE, Int.reduceLT, Int.reduceMul, Int.reduceAdd, Nat.reduceMul, decide_true, decide_false, v0, v1, v2, v3, v4, c0, c1, c2, c3, c4]
        exact ⟨0, by omega, 0, rfl, by omega, by rw [hv]; rfl⟩
      · have hv : lessB x y 0 (4 - 0) = lessB x y 1 (4 - 1) := by rw [show 4 - 0 = 3 + 1 from rfl, lessB, if_neg e1, if_pos e3]
        simp only [go_sem, Nat.reduceAdd, Nat.reduceLT, Nat.reduceEqDiff, Nat.reduceBEq, Nat.reduceLeDiff, Nat.reduceSub, Int.reduceToNat, reduceCtorEq, ↓reduceIte, iK, bys, avB, e2, e4, Int.reduceSub, Int.reduceLE, Int.reduceLT, Int.reduceMul, Int.reduceAdd, Nat.reduceMul, decide_true, decide_false, v0, v1, v2, v3, v4, c0, c1, c2, c3, c4]
        exact ⟨0, by omega, 0, rfl, by omega, by rw [hv]; rfl⟩
      · have hv : lessB x y 0 (4 - 0) = false := by rw [show 4 - 0 = 3 + 1 from rfl, lessB, if_neg e1, if_neg e3]
        simp only [go_sem, Nat.reduceAdd, Nat.reduceLT, Nat.reduceEqDiff, Nat.reduceBEq, Nat.reduceLeDiff, Nat.reduceSub, Int.reduceToNat, reduceCtorEq, ↓reduceIte, iK, bys, avB, e2, e4, Int.reduceSub, Int.reduceLE, Int.reduceLT, Int.reduceMul, Int.reduceAdd, Nat.reduceMul, decide_true, decide_false, v0, v1, v2, v3, v4, c0, c1, c2, c3, c4]
        exact ⟨0, by omega, 0, rfl, by omega, by rw [hv]; rfl⟩
    | 0, _ =>
      simp only [go_sem, Nat.reduceAdd, Nat.reduceLT, Nat.reduceEqDiff, Nat.reduceBEq, Nat.reduceLeDiff, Nat.reduceSub, Int.reduceToNat, reduceCtorEq, ↓reduceIte, iK, bys, avB, Int.reduceSub, Int.reduceLE, Int.reduceLT, Int.reduceMul, Int.reduceAdd, Nat.reduceMul, decide_true, decide_false, v0, v1, v2, v3, v4, c0, c1, c2, c3, c4]
      refine callX_of (C_Number n0 4 (by decide) (by decide)) ?_
      have e0 := Int.emod_nonneg n0 (show (4 : Int) ≠ 0 by decide)
      have e1 := Int.emod_lt_of_pos n0 (show (0 : Int) < 4 by decide)
      have hxl : ∀ i, i < 4 → x i < 256 := fun i _ => hx ▸ bytN_lt a i
      have hyl : ∀ i, i < 4 → y i < 256 := fun i _ => hy ▸ bytN_lt b i
      have ax : ofB x 4 = a := hx ▸ ofB_bytN a ha
      have bY : ofB y 4 = b := hy ▸ ofB_bytN b hb
      have hL : lessB x y 0 4 = decide ((a : Int) < (b : Int)) := by
        rw [lessB_ofB x y hxl hyl, ax, bY]
        simp
      have ox : AC Tryd.prog f_addr_Of [.agg (bys x)] (avU a) := ax ▸ C_Of x hxl
      obtain ⟨k, hk, hk4⟩ : ∃ k : Nat, n0 % 4 = (k : Int) ∧ k < 4 := ⟨(n0 % 4).toNat, by omega, by omega⟩
      have key : ∀ z : Nat → Nat, (∀ i, i < 4 → i ≠ k → z i = x i) → z k = by0 → AC Tryd.prog f_addr_Of [.agg (bys z)] (avU (ofB z 4)) ∧ (((ofB z 4 : Nat) : Int) == (a : Int)) = ((by0 : Int) == (x k : Int)) ∧
          AC Tryd.prog f_addr_Bytes [avU (ofB z 4)] (.agg (bys z)) := by
        intro z hz hzk
        have hzl : ∀ i, i < 4 → z i < 256 := fun i hi => by
          by_cases e : i = k
          · rw [e, hzk]; exact hby
          · rw [hz i hi e]; exact hxl i hi
        have hlt : ofB z 4 < 4294967296 := ofB_lt z 4 hzl
        refine ⟨C_Of z hzl, ?_, ?_⟩
        · rw [nat_beq, nat_beq, Bool.eq_iff_iff, decide_eq_true_eq, decide_eq_true_eq]
          constructor
          · intro e
            rw [← hzk, ← bytN_ofB z hzl k hk4, e, ← hx]
          · intro e
            rw [← ax]
            refine ofB_congr fun i hi => ?_
            by_cases h : i = k
            · rw [h, hzk, e]
            · exact hz i hi h
        · have := C_Bytes (ofB z 4) hlt
          have e : avBytes (bytN (ofB z 4)) = .agg (bys z) := by
            simp only [avBytes, bys, bytN_ofB z hzl 0 (by decide), bytN_ofB z hzl 1 (by decide), bytN_ofB z hzl 2 (by decide), bytN_ofB z hzl 3 (by decide)]
          rw [← e]
          exact this
      simp only [go_sem, Nat.reduceAdd, Nat.reduceLT, Nat.reduceEqDiff, Nat.reduceBEq, Nat.reduceLeDiff, Nat.reduceSub, Int.reduceToNat, reduceCtorEq, ↓reduceIte, hk]
      match k, hk4 with
      | 0, _ =>
        obtain ⟨k1, k2, k3⟩ := key (zat x 0 by0) (fun i hi hne => if_neg hne) (if_pos rfl)
        generalize ofB (zat x 0 by0) 4 = oz at k1 k2 k3
        rw [show bys (zat x 0 by0) = [avB by0, avB (x 1), avB (x 2), avB (x 3)] from rfl] at k1 k3
        simp only [bys, avB, avU] at k1 k3 ox
        simp only [go_sem, Nat.reduceAdd, Nat.reduceLT, Nat.reduceEqDiff, Nat.reduceBEq, Nat.reduceLeDiff, Nat.reduceSub, Int.reduceToNat, reduceCtorEq, ↓reduceIte, bys, avB, avU, hL, beq_self_eq_true, Int.reduceSub, Int.reduceLE, Int.reduceLT, Int.reduceMul, Int.reduceAdd, Nat.reduceMul, decide_true, decide_false, v0, v1, v2, v3, v4, c0, c1, c2, c3, c4]
        refine callX_of ox ?_
        simp only [go_sem, Nat.reduceAdd, Nat.reduceLT, Nat.reduceEqDiff, Nat.reduceBEq, Nat.reduceLeDiff, Nat.reduceSub, Int.reduceToNat, reduceCtorEq, ↓reduceIte, bys, avB, avU, beq_self_eq_true, Int.reduceSub, Int.reduceLE, Int.reduceLT, Int.reduceMul, Int.reduceAdd, Nat.reduceMul, decide_true, decide_false, v0, v1, v2, v3, v4, c0, c1, c2, c3, c4]
        refine callX_of k1 ?_
        simp only [go_sem, Nat.reduceAdd, Nat.reduceLT, Nat.reduceEqDiff, Nat.reduceBEq, Nat.reduceLeDiff, Nat.reduceSub, Int.reduceToNat, reduceCtorEq, ↓reduceIte, bys, avB, avU, k2, beq_self_eq_true, Int.reduceSub, Int.reduceLE, Int.reduceLT, Int.reduceMul, Int.reduceAdd, Nat.reduceMul, decide_true, decide_false, v0, v1, v2, v3, v4, c0, c1, c2, c3, c4]
        refine callX_of k1 ?_
        simp only [go_sem, Nat.reduceAdd, Nat.reduceLT, Nat.reduceEqDiff, Nat.reduceBEq, Nat.reduceLeDiff, Nat.reduceSub, Int.reduceToNat, reduceCtorEq, ↓reduceIte, bys, avB, avU, beq_self_eq_true, Int.reduceSub, Int.reduceLE, Int.reduceLT, Int.reduceMul, Int.reduceAdd, Nat.reduceMul, decide_true, decide_false, v0, v1, v2, v3, v4, c0, c1, c2, c3, c4]
        refine callX_of k3 ?_
        simp only [go_sem, Nat.reduceAdd, Nat.reduceLT, Nat.reduceEqDiff, Nat.reduceBEq, Nat.reduceLeDiff, Nat.reduceSub, Int.reduceToNat, reduceCtorEq, ↓reduceIte, bys, avB, avU, beq_self_eq_true, Bool.and_self, Int.reduceSub, Int.reduceLE, Int.reduceLT, Int.reduceMul, Int.reduceAdd, Nat.reduceMul, decide_true, decide_false, v0, v1, v2, v3, v4, c0, c1, c2, c3, c4]
      | 1, _ =>
        obtain ⟨k1, k2, k3⟩ := key (zat x 1 by0) (fun i hi hne => if_neg hne) (if_pos rfl)
        generalize ofB (zat x 1 by0) 4 = oz at k1 k2 k3
        rw [show bys (zat x 1 by0) = [avB (x 0), avB by0, avB (x 2), avB (x 3)] from rfl] at k1 k3
        simp only [bys, avB, avU] at k1 k3 ox
        simp only [go_sem, Nat.reduceAdd, Nat.reduceLT, Nat.reduceEqDiff, Nat.reduceBEq, Nat.reduceLeDiff, Nat.reduceSub, Int.reduceToNat, reduceCtorEq, ↓reduceIte, bys, avB, avU, hL, beq_self_eq_true, Int.reduceSub, Int.reduceLE, Int.reduceLT, Int.reduceMul, Int.reduceAdd, Nat.reduceMul, decide_true, decide_false, v0, v1, v2, v3, v4, c0, c1, c2, c3, c4]
        refine callX_of ox ?_
        simp only [go_sem, Nat.reduceAdd, Nat.reduceLT, Nat.reduceEqDiff, Nat.reduceBEq, Nat.reduceLeDiff, Nat.reduceSub, Int.reduceToNat, reduceCtorEq, ↓reduceIte, bys, avB, avU, beq_self_eq_true, Int.reduceSub, Int.reduceLE, Int.reduceLT, Int.reduceMul, Int.reduceAdd, Nat.reduceMul, decide_true, decide_false, v0, v1, v2, v3, v4, c0, c1, c2, c3, c4]
        refine callX_of k1 ?_
        simp only [go_sem, Nat.reduceAdd, Nat.reduceLT, Nat.reduceEqDiff, Nat.reduceBEq, Nat.reduceLeDiff, Nat.reduceSub, Int.reduceToNat, reduceCtorEq, ↓reduceIte, bys, avB, avU, k2, beq_self_eq_true, Int.reduceSub, Int.reduceLE, Int.reduceLT, Int.reduceMul, Int.reduceAdd, Nat.reduceMul, decide_true, decide_false, v0, v1, v2, v3, v4, c0, c1, c2, c3, c4]
        refine callX_of k1 ?_
        simp only [go_sem, Nat.reduceAdd, Nat.reduceLT, Nat.reduceEqDiff, Nat.reduceBEq, Nat.reduceLeDiff, Nat.reduceSub, Int.reduceToNat, reduceCtorEq, ↓reduceIte, bys, avB, avU, beq_self_eq_true, Int.reduceSub, Int.reduceLE, Int.reduceLT, Int.reduceMul, Int.reduceAdd, Nat.reduceMul, decide_true, decide_false, v0, v1, v2, v3, v4, c0, c1, c2, c3, c4]
        refine callX_of k3 ?_
        simp only [go_sem, Nat.reduceAdd, Nat.reduceLT, Nat.reduceEqDiff, Nat.reduceBEq, Nat.reduceLeDiff, Nat.reduceSub, Int.reduceToNat, reduceCtorEq, ↓reduceIte, bys, avB, avU, beq_self_eq_true, Bool.and_self, Int.reduceSub, Int.reduceLE, Int.reduceLT, Int.reduceMul, Int.reduceAdd, Nat.reduceMul, decide_true, decide_false, v0, v1, v2, v3, v4, c0, c1, c2, c3, c4]
      | 2, _ =>
        obtain ⟨k1, k2, k3⟩ := key (zat x 2 by0) (fun i hi hne => if_neg hne) (if_pos rfl)
        generalize ofB (zat x 2 by0) 4 = oz at k1 k2 k3
        rw [show bys (zat x 2 by0) = [avB (x 0), avB (x 1), avB by0, avB (x 3)] from rfl] at k1 k3
        simp only [bys, avB, avU] at k1 k3 ox
        simp only [go_sem, Nat.reduceAdd, Nat.reduceLT, Nat.reduceEqDiff, Nat.reduceBEq, Nat.reduceLeDiff, Nat.reduceSub, Int.reduceToNat, reduceCtorEq, ↓reduceIte, bys, avB, avU, hL, beq_self_eq_true, Int.reduceSub, Int.reduceLE, Int.reduceLT, Int.reduceMul, Int.reduceAdd, Nat.reduceMul, decide_true, decide_false, v0, v1, v2, v3, v4, c0, c1, c2, c3, c4]
        refine callX_of ox ?_
        simp only [go_sem, Nat.reduceAdd, Nat.reduceLT, Nat.reduceEqDiff, Nat.reduceBEq, Nat.reduceLeDiff, Nat.reduceSub, Int.reduceToNat, reduceCtorEq, ↓reduceIte, bys, avB, avU, beq_self_eq_true, Int.reduceSub, Int.reduceLE, Int.reduceLT, Int.reduceMul, Int.reduceAdd, Nat.reduceMul, decide_true, decide_false, v0, v1, v2, v3, v4, c0, c1, c2, c3, c4]
        refine callX_of k1 ?_
        simp only [go_sem, Nat.reduceAdd, Nat.reduceLT, Nat.reduceEqDiff, Nat.reduceBEq, Nat.reduceLeDiff, Nat.reduceSub, Int.reduceToNat, reduceCtorEq, ↓reduceIte, bys, avB, avU, k2, beq_self_eq_true, Int.reduceSub, Int.reduceLE, Int.reduceLT, Int.reduceMul, Int.reduceAdd, Nat.reduceMul, decide_true, decide_false, v0, v1, v2, v3, v4, c0, c1, c2, c3, c4]
        refine callX_of k1 ?_
        simp only [go_sem, Nat.reduceAdd, Nat.reduceLT, Nat.reduceEqDiff, Nat.reduceBEq, Nat.reduceLeDiff, Nat.reduceSub, Int.reduceToNat, reduceCtorEq, ↓reduceIte, bys, avB, avU, beq_self_eq_true, Int.reduceSub, Int.reduceLE, Int.reduceLT, Int.reduceMul, Int.reduceAdd, Nat.reduceMul, decide_true, decide_false, v0, v1, v2, v3, v4, c0, c1, c2, c3, c4]
        refine callX_of k3 ?_
        simp only [go_sem, Nat.reduceAdd, Nat.reduceLT, Nat.reduceEqDiff, Nat.reduceBEq, Nat.reduceLeDiff, Nat.reduceSub, Int.reduceToNat, reduceCtorEq, ↓reduceIte, bys, avB, avU, beq_self_eq_true, Bool.and_self, Int.reduceSub, Int.reduceLE, Int.reduceLT, Int.reduceMul, Int.reduceAdd, Nat.reduceMul, decide_true, decide_false, v0, v1, v2, v3, v4, c0, c1, c2, c3, c4]
      | 3, _ =>
        obtain ⟨k1, k2, k3⟩ := key (zat x 3 by0) (fun i hi hne => if_neg hne) (if_pos rfl)
        generalize ofB (zat x 3 by0) 4 = oz at k1 k2 k3
        rw [show bys (zat x 3 by0) = [avB (x 0), avB (x 1), avB (x 2), avB by0] from rfl] at k1 k3
        simp only [bys, avB, avU] at k1 k3 ox
        simp only [go_sem, Nat.reduceAdd, Nat.reduceLT, Nat.reduceEqDiff, Nat.reduceBEq, Nat.reduceLeDiff, Nat.reduceSub, Int.reduceToNat, reduceCtorEq, ↓reduceIte, bys, avB, avU, hL, beq_self_eq_true, Int.reduceSub, Int.reduceLE, Int.reduceLT, Int.reduceMul, Int.reduceAdd, Nat.reduceMul, decide_true, decide_false, v0, v1, v2, v3, v4, c0, c1, c2, c3, c4]
        refine callX_of ox ?_
        simp only [go_sem, Nat.reduceAdd, Nat.reduceLT, Nat.reduceEqDiff, Nat.reduceBEq, Nat.reduceLeDiff, Nat.reduceSub, Int.reduceToNat, reduceCtorEq, ↓reduceIte, bys, avB, avU, beq_self_eq_true, Int.reduceSub, Int.reduceLE, Int.reduceLT, Int.reduceMul, Int.reduceAdd, Nat.reduceMul, decide_true, decide_false, v0, v1, v2, v3, v4, c0, c1, c2, c3, c4]
        refine callX_of k1 ?_
        simp only [go_sem, Nat.reduceAdd, Nat.reduceLT, Nat.reduceEqDiff, Nat.reduceBEq, Nat.reduceLeDiff, Nat.reduceSub, Int.reduceToNat, reduceCtorEq, ↓reduceIte, bys, avB, avU, k2, beq_self_eq_true, Int.reduceSub, Int.reduceLE, Int.reduceLT, Int.reduceMul, Int.reduceAdd, Nat.reduceMul, decide_true, decide_false, v0, v1, v2, v3, v4, c0, c1, c2, c3, c4]
        refine callX_of k1 ?_
        simp only [go_sem, Nat.reduceAdd, Nat.reduceLT, Nat.reduceEqDiff, Nat.reduceBEq, Nat.reduceLeDiff, Nat.reduceSub, Int.reduceToNat, reduceCtorEq, ↓reduceIte, bys, avB, avU, beq_self_eq_true, Int.reduceSub, Int.reduceLE, Int.reduceLT, Int.reduceMul, Int.reduceAdd, Nat.reduceMul, decide_true, decide_false, v0, v1, v2, v3, v4, c0, c1, c2, c3, c4]
        refine callX_of k3 ?_
        simp only [go_sem, Nat.reduceAdd, Nat.reduceLT, Nat.reduceEqDiff, Nat.reduceBEq, Nat.reduceLeDiff, Nat.reduceSub, Int.reduceToNat, reduceCtorEq, ↓reduceIte, bys, avB, avU, beq_self_eq_true, Bool.and_self, Int.reduceSub, Int.reduceLE, Int.reduceLT, Int.reduceMul, Int.reduceAdd, Nat.reduceMul, decide_true, decide_false, v0, v1, v2, v3, v4, c0, c1, c2, c3, c4]
      | k + 4, hk4 => omega
    | m + 5, hk => omega

end Go.Proofs.YtodnphnbnneegaaDoor.VL
