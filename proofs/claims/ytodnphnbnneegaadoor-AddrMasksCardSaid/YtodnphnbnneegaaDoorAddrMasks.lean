/- rivuletlaw1.AddrMasks: the walk. -/
import Derived.Test.YtodnphnbnneegaaDoorAddr2
import Derived.Test.YtodnphnbnneegaaDoorWorld
set_option linter.unusedVariables false
set_option linter.unusedSimpArgs false
set_option maxHeartbeats 4000000
namespace Go.Proofs.YtodnphnbnneegaaDoor.VL
open Go.RowKit Go.Proofs

theorem nat_mod (y : Nat) (h : y < 4294967296) : (y : Int) % 4294967296 = (y : Int) := by omega

/-- The high bits. -/
def hiN (k x : Nat) : Nat := x - x % 2 ^ k
theorem hiN_eq (k x : Nat) : hiN k x = x / 2 ^ k * 2 ^ k := by
  have := Nat.div_add_mod x (2 ^ k)
  rw [Nat.mul_comm] at this
  unfold hiN
  omega
theorem hiN_le (k x : Nat) : hiN k x ≤ x := Nat.sub_le _ _
theorem hiN_mod (k x : Nat) : hiN k x % 2 ^ k = 0 := by rw [hiN_eq]; exact Nat.mul_mod_left _ _
theorem hiN_hiN (j k x : Nat) (h : j ≤ k) : hiN k (hiN j x) = hiN k x := by
  rw [hiN_eq k, hiN_eq k]
  congr 1
  obtain ⟨d, rfl⟩ : ∃ d, k = j + d := ⟨k - j, by omega⟩
  rw [hiN_eq, Nat.pow_add, ← Nat.div_div_eq_div_mul, ← Nat.div_div_eq_div_mul, Nat.mul_div_cancel _ (Nat.pos_of_ne_zero (by simp))]

theorem valid_hi (a n : Nat) (hn : n ≤ 32) : validN (hiN (32 - n) a) (n : Nat) = true := by
  simp only [validN, Bool.and_eq_true, decide_eq_true_eq, Int.toNat_natCast]
  exact ⟨by omega, by omega, hiN_mod _ _⟩
theorem in_hi (a n x : Nat) (hn : n ≤ 32) : inN (hiN (32 - n) a) (n : Nat) x = decide (hiN (32 - n) x = hiN (32 - n) a) := by
  simp only [inN, valid_hi a n hn, Bool.true_and, Int.toNat_natCast]
  rfl
theorem within_hi (a n m : Nat) (hn : n ≤ 32) (hm : m ≤ 32) : withinN (hiN (32 - m) a) (m : Nat) (hiN (32 - n) a) (n : Nat) = decide (n ≤ m) := by
  simp only [withinN, valid_hi a m hm, Bool.true_and, in_hi _ n _ hn]
  by_cases h : n ≤ m
  · rw [hiN_hiN _ _ _ (by omega)]
    simp [h]
  · simp [h]

theorem xor_tab : ((List.range 32).all fun n => decide ((mskN (n + 1)) ^^^ (mskN n) = 2 ^ (31 - n))) = true := by decide +kernel
theorem xor_msk (n : Nat) (h : n < 32) : (mskN (n + 1)) ^^^ (mskN n) = 2 ^ (31 - n) := by
  have := xor_tab
  simp only [List.all_eq_true, List.mem_range, decide_eq_true_eq] at this
  exact this n h

theorem AC_AddrMasks (a b : Nat) (n0 m0 : Int) (ha : a < 4294967296) (hb : b < 4294967296) : AC Tryd.prog f_rivuletlaw1_AddrMasks [avU a, avU b, .lit (.int .i64 n0), .lit (.int .i64 m0)] (.lit (.bool true)) := by
  refine ac_rivuletlaw1_AddrMasks ?_ (Nat.le_add_left 4 94)
  simp only [go_sem, Nat.reduceAdd, Nat.reduceLT, Nat.reduceEqDiff, Nat.reduceBEq, Nat.reduceLeDiff, Nat.reduceSub, Int.reduceToNat, reduceCtorEq, ↓reduceIte, c_rivuletlaw1_AddrMasks, avU]
  refine callX_of C_first1 ?_
  simp only [go_sem, Nat.reduceAdd, Nat.reduceLT, Nat.reduceEqDiff, Nat.reduceBEq, Nat.reduceLeDiff, Nat.reduceSub, Int.reduceToNat, reduceCtorEq, ↓reduceIte]
  refine callX_of (C_Number n0 33 (by decide) (by decide)) ?_
  have e0 := Int.emod_nonneg n0 (show (33 : Int) ≠ 0 by decide)
  have e1 := Int.emod_lt_of_pos n0 (show (0 : Int) < 33 by decide)
  obtain ⟨n, hn, hn32⟩ : ∃ n : Nat, n0 % 33 = (n : Int) ∧ n ≤ 32 := ⟨(n0 % 33).toNat, by omega, by omega⟩
  have w1 : IntKind.i64.wrap (33 - (n : Int)) = 33 - (n : Int) := by rw [IntKind.wrap_i64]; omega
  simp only [go_sem, Nat.reduceAdd, Nat.reduceLT, Nat.reduceEqDiff, Nat.reduceBEq, Nat.reduceLeDiff, Nat.reduceSub, Int.reduceToNat, reduceCtorEq, ↓reduceIte, hn, w1]
  refine callX_of (C_Number m0 (33 - (n : Int)) (by omega) (by omega)) ?_
  have e2 := Int.emod_nonneg m0 (show (33 - (n : Int)) ≠ 0 by omega)
  have e3 := Int.emod_lt_of_pos m0 (show (0 : Int) < 33 - (n : Int) by omega)
  obtain ⟨m, hm, hm32, hnm⟩ : ∃ m : Nat, IntKind.i64.wrap ((n : Int) + m0 % (33 - (n : Int))) = (m : Int) ∧ m ≤ 32 ∧ n ≤ m := ⟨((n : Int) + m0 % (33 - (n : Int))).toNat, by rw [IntKind.wrap_i64]; omega, by omega, by omega⟩
  have k1 : cl32 (n : Int) = n := by rw [cl32_eq _ (by omega) (by omega)]; simp
  have k2 : cl32 (m : Int) = m := by rw [cl32_eq _ (by omega) (by omega)]; simp
  have hp : hiN (32 - n) a < 4294967296 := Nat.lt_of_le_of_lt (hiN_le _ _) ha
  have hq : hiN (32 - m) a < 4294967296 := Nat.lt_of_le_of_lt (hiN_le _ _) ha
  have cp := C_Mask (n : Int)
  have cq := C_Mask (m : Int)
  rw [k1] at cp
  rw [k2] at cq
  have b1 : bits .and .u32 (a : Int) (mskN n : Nat) = ((hiN (32 - n) a : Nat) : Int) := u32_msk a n ha
  have b2 : bits .and .u32 (a : Int) (mskN m : Nat) = ((hiN (32 - m) a : Nat) : Int) := u32_msk a m ha
  simp only [go_sem, Nat.reduceAdd, Nat.reduceLT, Nat.reduceEqDiff, Nat.reduceBEq, Nat.reduceLeDiff, Nat.reduceSub, Int.reduceToNat, reduceCtorEq, ↓reduceIte, hm]
  refine callX_of cp ?_
  simp only [go_sem, Nat.reduceAdd, Nat.reduceLT, Nat.reduceEqDiff, Nat.reduceBEq, Nat.reduceLeDiff, Nat.reduceSub, Int.reduceToNat, reduceCtorEq, ↓reduceIte, avU, b1]
  refine callX_of cq ?_
  simp only [go_sem, Nat.reduceAdd, Nat.reduceLT, Nat.reduceEqDiff, Nat.reduceBEq, Nat.reduceLeDiff, Nat.reduceSub, Int.reduceToNat, reduceCtorEq, ↓reduceIte, avU, b2]
  have t1 := within_hi a n m hn32 hm32
  have t2 := within_hi a m n hm32 hn32
  have t3 := in_hi a n a hn32
  have t4 := in_hi a m a hm32
  have t5 := in_hi a m b hm32
  have t6 := in_hi a n b hn32
  have dnm : decide (n ≤ m) = true := by simpa using hnm
  have dn : (decide (m ≤ n)) = ((n : Int) == (m : Int)) := by
    rw [nat_beq, Bool.eq_iff_iff]
    simp only [decide_eq_true_eq]
    omega
  refine callX_of (C_Within _ (m : Int) _ (n : Int) hq hp) ?_
  simp only [go_sem, Nat.reduceAdd, Nat.reduceLT, Nat.reduceEqDiff, Nat.reduceBEq, Nat.reduceLeDiff, Nat.reduceSub, Int.reduceToNat, reduceCtorEq, ↓reduceIte, avU, t1, dnm]
  refine callX_of (C_In _ (n : Int) a hp ha) ?_
  simp only [go_sem, Nat.reduceAdd, Nat.reduceLT, Nat.reduceEqDiff, Nat.reduceBEq, Nat.reduceLeDiff, Nat.reduceSub, Int.reduceToNat, reduceCtorEq, ↓reduceIte, avU, t3, decide_true]
  refine callX_of (C_In _ (m : Int) a hq ha) ?_
  simp only [go_sem, Nat.reduceAdd, Nat.reduceLT, Nat.reduceEqDiff, Nat.reduceBEq, Nat.reduceLeDiff, Nat.reduceSub, Int.reduceToNat, reduceCtorEq, ↓reduceIte, avU, t4, decide_true]
  refine callX_of (C_In _ (m : Int) b hq hb) ?_
  have fin : ∀ K : Prop, True := fun _ => trivial
  have x1 : IntKind.i64.wrap (31 - (n : Int)) = 31 - (n : Int) := by rw [IntKind.wrap_i64]; omega
  have x2 : IntKind.i64.wrap ((n : Int) + 1) = ((n + 1 : Nat) : Int) := by rw [IntKind.wrap_i64]; omega
  have z0 := C_Mask 0
  have z1 := C_Mask (-3)
  have z2 := C_Mask 40
  have y0 : mskN (cl32 0) = 0 := by decide
  have y1 : mskN (cl32 (-3)) = 0 := by decide
  have y2 : mskN (cl32 40) = 4294967295 := by decide
  rw [y0] at z0
  rw [y1] at z1
  rw [y2] at z2
  by_cases h : hiN (32 - m) b = hiN (32 - m) a
  · have h6 : hiN (32 - n) b = hiN (32 - n) a := by rw [← hiN_hiN (32 - m) (32 - n) b (by omega), h, hiN_hiN _ _ _ (by omega)]
    have u5 : inN (hiN (32 - m) a) (m : Int) b = true := by rw [t5]; simpa using h
    have u6 : inN (hiN (32 - n) a) (n : Int) b = true := by rw [t6]; simpa using h6
    simp only [go_sem, Nat.reduceAdd, Nat.reduceLT, Nat.reduceEqDiff, Nat.reduceBEq, Nat.reduceLeDiff, Nat.reduceSub, Int.reduceToNat, reduceCtorEq, ↓reduceIte, avU, u5]
    refine callX_of (C_In _ (n : Int) b hp hb) ?_
    simp only [go_sem, Nat.reduceAdd, Nat.reduceLT, Nat.reduceEqDiff, Nat.reduceBEq, Nat.reduceLeDiff, Nat.reduceSub, Int.reduceToNat, reduceCtorEq, ↓reduceIte, avU, u6]
    refine callX_of (C_Within _ (n : Int) _ (m : Int) hp hq) ?_
    simp only [go_sem, Nat.reduceAdd, Nat.reduceLT, Nat.reduceEqDiff, Nat.reduceBEq, Nat.reduceLeDiff, Nat.reduceSub, Int.reduceToNat, reduceCtorEq, ↓reduceIte, avU, t2, dn, bne_self_eq_false]
    cases h32 : ((n : Int) == 32) with
    | true => simp only [go_sem, Nat.reduceAdd, Nat.reduceLT, Nat.reduceEqDiff, Nat.reduceBEq, Nat.reduceLeDiff, Nat.reduceSub, Int.reduceToNat, reduceCtorEq, ↓reduceIte]
    | false =>
      have hlt : n < 32 := by
        have : ¬ (n : Int) = 32 := by simpa using h32
        omega
      have k3 : cl32 ((n + 1 : Nat) : Int) = n + 1 := by rw [cl32_eq _ (by omega) (by omega)]; simp
      have cr := C_Mask ((n + 1 : Nat) : Int)
      rw [k3] at cr
      have b3 : bits .xor .u32 (mskN (n + 1) : Nat) (mskN n : Nat) = ((2 ^ (31 - n) : Nat) : Int) := by rw [u32_xor_nat _ _ (mskN_lt _) (mskN_lt _), xor_msk n hlt]
      have x3 : IntKind.u64.wrap (31 - (n : Int)) = 31 - (n : Int) := by
        have : IntKind.u64.wrap (31 - (n : Int)) = (31 - (n : Int)) % 18446744073709551616 := by simp [IntKind.wrap, IntKind.bits, IntKind.signed]
        rw [this]
        omega
      have b4 := avBin_shl 23 .u32 .u64 1 (31 - (n : Int)) (by omega) (by simp [IntKind.bits]; omega)
      have b5 : IntKind.u32.wrap (1 * 2 ^ (31 - (n : Int)).toNat) = ((2 ^ (31 - n) : Nat) : Int) := by
        have e : (31 - (n : Int)).toNat = 31 - n := by omega
        have hp2 : 2 ^ (31 - n) ≤ 2 ^ 31 := Nat.pow_le_pow_right (by decide) (by omega)
        have e2 : (1 * 2 ^ (31 - n) : Int) = ((2 ^ (31 - n) : Nat) : Int) := by simp
        rw [e, e2, IntKind.wrap_u32]
        exact nat_mod _ (Nat.lt_of_le_of_lt hp2 (by decide))
      simp only [go_sem, Nat.reduceAdd, Nat.reduceLT, Nat.reduceEqDiff, Nat.reduceBEq, Nat.reduceLeDiff, Nat.reduceSub, Int.reduceToNat, reduceCtorEq, ↓reduceIte, x2]
      refine callX_of cr ?_
      simp only [go_sem, Nat.reduceAdd, Nat.reduceLT, Nat.reduceEqDiff, Nat.reduceBEq, Nat.reduceLeDiff, Nat.reduceSub, Int.reduceToNat, reduceCtorEq, ↓reduceIte, avU]
      refine callX_of cp ?_
      simp only [go_sem, Nat.reduceAdd, Nat.reduceLT, Nat.reduceEqDiff, Nat.reduceBEq, Nat.reduceLeDiff, Nat.reduceSub, Int.reduceToNat, reduceCtorEq, ↓reduceIte, avU, b3, x1, x3, b4, b5, beq_self_eq_true]
      refine callX_of z0 ?_
      simp only [go_sem, Nat.reduceAdd, Nat.reduceLT, Nat.reduceEqDiff, Nat.reduceBEq, Nat.reduceLeDiff, Nat.reduceSub, Int.reduceToNat, reduceCtorEq, ↓reduceIte, avU, Int.ofNat_zero, beq_self_eq_true]
      refine callX_of z1 ?_
      simp only [go_sem, Nat.reduceAdd, Nat.reduceLT, Nat.reduceEqDiff, Nat.reduceBEq, Nat.reduceLeDiff, Nat.reduceSub, Int.reduceToNat, reduceCtorEq, ↓reduceIte, avU, Int.ofNat_zero, beq_self_eq_true]
      refine callX_of z2 ?_
      have y3 : (((4294967295 : Nat) : Int) == 4294967295) = true := by decide
      simp only [go_sem, Nat.reduceAdd, Nat.reduceLT, Nat.reduceEqDiff, Nat.reduceBEq, Nat.reduceLeDiff, Nat.reduceSub, Int.reduceToNat, reduceCtorEq, ↓reduceIte, avU, y3]
  · have u5 : inN (hiN (32 - m) a) (m : Int) b = false := by rw [t5]; simpa using h
    simp only [go_sem, Nat.reduceAdd, Nat.reduceLT, Nat.reduceEqDiff, Nat.reduceBEq, Nat.reduceLeDiff, Nat.reduceSub, Int.reduceToNat, reduceCtorEq, ↓reduceIte, avU, u5]
    refine callX_of (C_Within _ (n : Int) _ (m : Int) hp hq) ?_
    simp only [go_sem, Nat.reduceAdd, Nat.reduceLT, Nat.reduceEqDiff, Nat.reduceBEq, Nat.reduceLeDiff, Nat.reduceSub, Int.reduceToNat, reduceCtorEq, ↓reduceIte, avU, t2, dn, bne_self_eq_false]
    cases h32 : ((n : Int) == 32) with
    | true => simp only [go_sem, Nat.reduceAdd, Nat.reduceLT, Nat.reduceEqDiff, Nat.reduceBEq, Nat.reduceLeDiff, Nat.reduceSub, Int.reduceToNat, reduceCtorEq, ↓reduceIte]
    | false =>
      have hlt : n < 32 := by
        have : ¬ (n : Int) = 32 := by simpa using h32
        omega
      have k3 : cl32 ((n + 1 : Nat) : Int) = n + 1 := by rw [cl32_eq _ (by omega) (by omega)]; simp
      have cr := C_Mask ((n + 1 : Nat) : Int)
      rw [k3] at cr
      have b3 : bits .xor .u32 (mskN (n + 1) : Nat) (mskN n : Nat) = ((2 ^ (31 - n) : Nat) : Int) := by rw [u32_xor_nat _ _ (mskN_lt _) (mskN_lt _), xor_msk n hlt]
      have x3 : IntKind.u64.wrap (31 - (n : Int)) = 31 - (n : Int) := by
        have : IntKind.u64.wrap (31 - (n : Int)) = (31 - (n : Int)) % 18446744073709551616 := by simp [IntKind.wrap, IntKind.bits, IntKind.signed]
        rw [this]
        omega
      have b4 := avBin_shl 23 .u32 .u64 1 (31 - (n : Int)) (by omega) (by simp [IntKind.bits]; omega)
      have b5 : IntKind.u32.wrap (1 * 2 ^ (31 - (n : Int)).toNat) = ((2 ^ (31 - n) : Nat) : Int) := by
        have e : (31 - (n : Int)).toNat = 31 - n := by omega
        have hp2 : 2 ^ (31 - n) ≤ 2 ^ 31 := Nat.pow_le_pow_right (by decide) (by omega)
        have e2 : (1 * 2 ^ (31 - n) : Int) = ((2 ^ (31 - n) : Nat) : Int) := by simp
        rw [e, e2, IntKind.wrap_u32]
        exact nat_mod _ (Nat.lt_of_le_of_lt hp2 (by decide))
      simp only [go_sem, Nat.reduceAdd, Nat.reduceLT, Nat.reduceEqDiff, Nat.reduceBEq, Nat.reduceLeDiff, Nat.reduceSub, Int.reduceToNat, reduceCtorEq, ↓reduceIte, x2]
      refine callX_of cr ?_
      simp only [go_sem, Nat.reduceAdd, Nat.reduceLT, Nat.reduceEqDiff, Nat.reduceBEq, Nat.reduceLeDiff, Nat.reduceSub, Int.reduceToNat, reduceCtorEq, ↓reduceIte, avU]
      refine callX_of cp ?_
      simp only [go_sem, Nat.reduceAdd, Nat.reduceLT, Nat.reduceEqDiff, Nat.reduceBEq, Nat.reduceLeDiff, Nat.reduceSub, Int.reduceToNat, reduceCtorEq, ↓reduceIte, avU, b3, x1, x3, b4, b5, beq_self_eq_true]
      refine callX_of z0 ?_
      simp only [go_sem, Nat.reduceAdd, Nat.reduceLT, Nat.reduceEqDiff, Nat.reduceBEq, Nat.reduceLeDiff, Nat.reduceSub, Int.reduceToNat, reduceCtorEq, ↓reduceIte, avU, Int.ofNat_zero, beq_self_eq_true]
      refine callX_of z1 ?_
      simp only [go_sem, Nat.reduceAdd, Nat.reduceLT, Nat.reduceEqDiff, Nat.reduceBEq, Nat.reduceLeDiff, Nat.reduceSub, Int.reduceToNat, reduceCtorEq, ↓reduceIte, avU, Int.ofNat_zero, beq_self_eq_true]
      refine callX_of z2 ?_
      have y3 : (((4294967295 : Nat) : Int) == 4294967295) = true := by decide
      simp only [go_sem, Nat.reduceAdd, Nat.reduceLT, Nat.reduceEqDiff, Nat.reduceBEq, Nat.reduceLeDiff, Nat.reduceSub, Int.reduceToNat, reduceCtorEq, ↓reduceIte, avU, y3]

end Go.Proofs.YtodnphnbnneegaaDoor.VL
