/- rivuletref1: masks, prefixes, groups. -/
import Derived.Test.YtodnphnbnneegaaDoorAddr6
set_option linter.unusedVariables false
set_option linter.unusedSimpArgs false
set_option maxHeartbeats 4000000
namespace Go.Proofs.YtodnphnbnneegaaDoor.VL
open Go.RowKit Go.Proofs

theorem or_tab : ((List.range 32).all fun k => decide (mskN k ||| 2 ^ (31 - k) = mskN (k + 1))) = true := by decide +kernel
theorem or_row (k : Nat) (h : k < 32) : mskN k ||| 2 ^ (31 - k) = mskN (k + 1) := by
  have := or_tab
  simp only [List.all_eq_true, List.mem_range, decide_eq_true_eq] at this
  exact this k h

theorem nat_mod32 (y : Nat) (h : y < 4294967296) : (y : Int) % 4294967296 = (y : Int) := by omega
theorem C_rMask (b : Int) : AC Tryd.prog f_rivuletref1_Mask [.lit (.int .i64 b)] (avU (mskN (cl32 b))) := by
  refine ac_rivuletref1_Mask ?_ (Nat.le_add_left 1 _)
  simp only [go_sem, Nat.reduceAdd, Nat.reduceLT, Nat.reduceEqDiff, Nat.reduceBEq, Nat.reduceLeDiff, Nat.reduceSub, Int.reduceToNat, reduceCtorEq, ↓reduceIte, c_rivuletref1_Mask]
  refine aw_loop (fun m E => ∃ k : Nat, k + m = 32 ∧ k ≤ cl32 b ∧ E = mkE [(0, .lit (.int .i64 b)), (3, avU (mskN k)), (4, .lit (.int .i64 (k : Nat)))] []) 32 ?_ ?_
  · exact ⟨0, by omega, by omega, by simp only [go_sem, Nat.reduceAdd, Nat.reduceLT, Nat.reduceEqDiff, Nat.reduceBEq, Nat.reduceLeDiff, Nat.reduceSub, Int.reduceToNat, reduceCtorEq, ↓reduceIte]; rfl⟩
  · rintro m _ ⟨k, hk, hkb, rfl⟩
    have hc := cl32_le b
    by_cases h1 : (k : Int) < b
    · have e1 : ((k : Int) < b) = True := eq_true h1
      by_cases h2 : k < 32
      · have e2 : ((k : Int) < 32) = True := eq_true (by omega)
        have w1 : IntKind.i64.wrap (31 - (k : Int)) = 31 - (k : Int) := by rw [IntKind.wrap_i64]; omega
        have w2 : IntKind.u64.wrap (31 - (k : Int)) = 31 - (k : Int) := by
          have : IntKind.u64.wrap (31 - (k : Int)) = (31 - (k : Int)) % 18446744073709551616 := by simp [IntKind.wrap, IntKind.bits, IntKind.signed]
          rw [this]
          omega
        have b4 := avBin_shl 23 .u32 .u64 1 (31 - (k : Int)) (by omega) (by simp [IntKind.bits]; omega)
        have b5 : IntKind.u32.wrap (1 * 2 ^ (31 - (k : Int)).toNat) = ((2 ^ (31 - k) : Nat) : Int) := by
          have e : (31 - (k : Int)).toNat = 31 - k := by omega
          have hp2 : 2 ^ (31 - k) ≤ 2 ^ 31 := Nat.pow_le_pow_right (by decide) (by omega)
          have e2 : (1 * 2 ^ (31 - k) : Int) = ((2 ^ (31 - k) : Nat) : Int) := by simp
          rw [e, e2, IntKind.wrap_u32]
          exact nat_mod32 _ (Nat.lt_of_le_of_lt hp2 (by decide))
        have b6 : bits .or .u32 (mskN k : Nat) ((2 ^ (31 - k) : Nat) : Int) = ((mskN (k + 1) : Nat) : Int) := by
          have hp2 : 2 ^ (31 - k) ≤ 2 ^ 31 := Nat.pow_le_pow_right (by decide) (by omega)
          rw [u32_or_nat _ _ (mskN_lt _) (Nat.lt_of_le_of_lt hp2 (by decide)), or_row k h2]
        have w3 := wrap_succ k (by omega)
        simp only [go_sem, Nat.reduceAdd, Nat.reduceLT, Nat.reduceEqDiff, Nat.reduceBEq, Nat.reduceLeDiff, Nat.reduceSub, Int.reduceToNat, reduceCtorEq, ↓reduceIte, avU, e1, e2, decide_true, w1, w2, b4, b5, b6, w3]
        refine ⟨m - 1, by omega, k + 1, by omega, ?_, rfl⟩
        unfold cl32
        split <;> (try split) <;> omega
      · have e2 : ((k : Int) < 32) = False := eq_false (by omega)
        have e3 : k = cl32 b := by omega
        simp only [go_sem, Nat.reduceAdd, Nat.reduceLT, Nat.reduceEqDiff, Nat.reduceBEq, Nat.reduceLeDiff, Nat.reduceSub, Int.reduceToNat, reduceCtorEq, ↓reduceIte, avU, e1, e2, decide_true, decide_false]
        rw [e3]
    · have e1 : ((k : Int) < b) = False := eq_false h1
      have e3 : k = cl32 b := by
        by_cases p1 : b < 0
        · have e : cl32 b = 0 := if_pos p1
          omega
        · by_cases p2 : 32 < b
          · have e : cl32 b = 32 := by unfold cl32; rw [if_neg p1, if_pos p2]
            omega
          · have e : cl32 b = b.toNat := by unfold cl32; rw [if_neg p1, if_neg p2]
            omega
      simp only [go_sem, Nat.reduceAdd, Nat.reduceLT, Nat.reduceEqDiff, Nat.reduceBEq, Nat.reduceLeDiff, Nat.reduceSub, Int.reduceToNat, reduceCtorEq, ↓reduceIte, avU, e1, decide_false]
      rw [e3]

theorem C_rValid (a : Nat) (b : Int) (ha : a < 4294967296) : AC Tryd.prog f_rivuletref1_Valid [avPfx a b] (.lit (.bool (validN a b))) := by
  refine ac_rivuletref1_Valid ?_ (Nat.le_add_left 1 19)
  by_cases h0 : 0 ≤ b
  · by_cases h1 : b ≤ 32
    · have e0 : decide (0 ≤ b) = true := by simpa using h0
      have e1 : decide (b ≤ 32) = true := by simpa using h1
      simp only [go_sem, Nat.reduceAdd, Nat.reduceLT, Nat.reduceEqDiff, Nat.reduceBEq, Nat.reduceLeDiff, Nat.reduceSub, Int.reduceToNat, reduceCtorEq, ↓reduceIte, c_rivuletref1_Valid, avPfx, avU, e0, e1]
      refine callX_of (C_rMask b) ?_
      simp only [go_sem, Nat.reduceAdd, Nat.reduceLT, Nat.reduceEqDiff, Nat.reduceBEq, Nat.reduceLeDiff, Nat.reduceSub, Int.reduceToNat, reduceCtorEq, ↓reduceIte, c_rivuletref1_Valid, avU, e0, e1, u32_nmsk a _ ha]
      rw [cl32_eq b h0 h1, nat_beq0]
      simp [validN, e0, e1]
    · have e0 : decide (0 ≤ b) = true := by simpa using h0
      have e1 : decide (b ≤ 32) = false := by simpa using h1
      simp only [go_sem, Nat.reduceAdd, Nat.reduceLT, Nat.reduceEqDiff, Nat.reduceBEq, Nat.reduceLeDiff, Nat.reduceSub, Int.reduceToNat, reduceCtorEq, ↓reduceIte, c_rivuletref1_Valid, avPfx, avU, e0, e1]
      simp [validN, e0, e1]
  · have e0 : decide (0 ≤ b) = false := by simpa using h0
    simp only [go_sem, Nat.reduceAdd, Nat.reduceLT, Nat.reduceEqDiff, Nat.reduceBEq, Nat.reduceLeDiff, Nat.reduceSub, Int.reduceToNat, reduceCtorEq, ↓reduceIte, c_rivuletref1_Valid, avPfx, avU, e0]
    simp [validN, e0]

theorem C_rIn (p : Nat) (b : Int) (x : Nat) (hp : p < 4294967296) (hx : x < 4294967296) : AC Tryd.prog f_rivuletref1_In [avPfx p b, avU x] (.lit (.bool (inN p b x))) := by
  refine ac_rivuletref1_In ?_ (Nat.le_add_left 2 15)
  cases hv : validN p b with
  | false =>
    simp only [go_sem, Nat.reduceAdd, Nat.reduceLT, Nat.reduceEqDiff, Nat.reduceBEq, Nat.reduceLeDiff, Nat.reduceSub, Int.reduceToNat, reduceCtorEq, ↓reduceIte, c_rivuletref1_In, avPfx, avU]
    refine callX_of (C_rValid p b hp) ?_
    simp only [go_sem, Nat.reduceAdd, Nat.reduceLT, Nat.reduceEqDiff, Nat.reduceBEq, Nat.reduceLeDiff, Nat.reduceSub, Int.reduceToNat, reduceCtorEq, ↓reduceIte, hv]
    simp [inN, hv]
  | true =>
    obtain ⟨h0, h1⟩ := validN_bounds hv
    simp only [go_sem, Nat.reduceAdd, Nat.reduceLT, Nat.reduceEqDiff, Nat.reduceBEq, Nat.reduceLeDiff, Nat.reduceSub, Int.reduceToNat, reduceCtorEq, ↓reduceIte, c_rivuletref1_In, avPfx, avU]
    refine callX_of (C_rValid p b hp) ?_
    simp only [go_sem, Nat.reduceAdd, Nat.reduceLT, Nat.reduceEqDiff, Nat.reduceBEq, Nat.reduceLeDiff, Nat.reduceSub, Int.reduceToNat, reduceCtorEq, ↓reduceIte, hv]
    refine callX_of (C_rMask b) ?_
    simp only [go_sem, Nat.reduceAdd, Nat.reduceLT, Nat.reduceEqDiff, Nat.reduceBEq, Nat.reduceLeDiff, Nat.reduceSub, Int.reduceToNat, reduceCtorEq, ↓reduceIte, avU, u32_msk x _ hx]
    rw [cl32_eq b h0 h1, nat_beq]
    simp [inN, hv]

theorem C_rWithin (p : Nat) (b : Int) (q : Nat) (c : Int) (hp : p < 4294967296) (hq : q < 4294967296) : AC Tryd.prog f_rivuletref1_Within [avPfx p b, avPfx q c] (.lit (.bool (withinN p b q c))) := by
  refine ac_rivuletref1_Within ?_ (Nat.le_add_left 2 18)
  cases hv : validN p b with
  | false =>
    simp only [go_sem, Nat.reduceAdd, Nat.reduceLT, Nat.reduceEqDiff, Nat.reduceBEq, Nat.reduceLeDiff, Nat.reduceSub, Int.reduceToNat, reduceCtorEq, ↓reduceIte, c_rivuletref1_Within, avPfx, avU]
    refine callX_of (C_rValid p b hp) ?_
    simp only [go_sem, Nat.reduceAdd, Nat.reduceLT, Nat.reduceEqDiff, Nat.reduceBEq, Nat.reduceLeDiff, Nat.reduceSub, Int.reduceToNat, reduceCtorEq, ↓reduceIte, hv]
    simp [withinN, hv]
  | true =>
    cases hc : decide (c ≤ b) with
    | false =>
      simp only [go_sem, Nat.reduceAdd, Nat.reduceLT, Nat.reduceEqDiff, Nat.reduceBEq, Nat.reduceLeDiff, Nat.reduceSub, Int.reduceToNat, reduceCtorEq, ↓reduceIte, c_rivuletref1_Within, avPfx, avU]
      refine callX_of (C_rValid p b hp) ?_
      simp only [go_sem, Nat.reduceAdd, Nat.reduceLT, Nat.reduceEqDiff, Nat.reduceBEq, Nat.reduceLeDiff, Nat.reduceSub, Int.reduceToNat, reduceCtorEq, ↓reduceIte, hv, hc]
      simp [withinN, hv, hc]
    | true =>
      simp only [go_sem, Nat.reduceAdd, Nat.reduceLT, Nat.reduceEqDiff, Nat.reduceBEq, Nat.reduceLeDiff, Nat.reduceSub, Int.reduceToNat, reduceCtorEq, ↓reduceIte, c_rivuletref1_Within, avPfx, avU]
      refine callX_of (C_rValid p b hp) ?_
      simp only [go_sem, Nat.reduceAdd, Nat.reduceLT, Nat.reduceEqDiff, Nat.reduceBEq, Nat.reduceLeDiff, Nat.reduceSub, Int.reduceToNat, reduceCtorEq, ↓reduceIte, hv, hc]
      refine callX_of (C_rIn q c p hq hp) ?_
      simp only [go_sem, Nat.reduceAdd, Nat.reduceLT, Nat.reduceEqDiff, Nat.reduceBEq, Nat.reduceLeDiff, Nat.reduceSub, Int.reduceToNat, reduceCtorEq, ↓reduceIte, hv, hc]
      simp [withinN, hv, hc]
theorem C_rGroup (a : Nat) (ha : a < 4294967296) : AC Tryd.prog f_rivuletref1_Group [avU a] (.lit (.bool (groupN a))) := by
  refine ac_rivuletref1_Group ?_ (Nat.le_add_left 1 _)
  have e := avBin_shr 23 .u32 .u64 (a : Int) 28 (by decide) (by decide)
  have e2 : (((a : Int) / 2 ^ 28) == 14) = groupN a := by
    rw [show (2 : Int) ^ 28 = 268435456 from rfl, Bool.eq_iff_iff]
    simp only [beq_iff_eq, groupN, Bool.and_eq_true, decide_eq_true_eq]
    omega
  simp only [go_sem, Nat.reduceAdd, Nat.reduceLT, Nat.reduceEqDiff, Nat.reduceBEq, Nat.reduceLeDiff, Nat.reduceSub, Int.reduceToNat, reduceCtorEq, ↓reduceIte, c_rivuletref1_Group, avU, e]
  rw [← e2]

end Go.Proofs.YtodnphnbnneegaaDoor.VL
