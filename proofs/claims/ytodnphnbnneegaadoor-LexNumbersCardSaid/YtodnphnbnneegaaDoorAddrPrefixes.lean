/- rivuletlaw1.AddrPrefixes: the walk. -/
import Derived.Test.YtodnphnbnneegaaDoorAddrRef
import Derived.Test.YtodnphnbnneegaaDoorSpl
import Derived.Test.YtodnphnbnneegaaDoorSee
set_option linter.unusedVariables false
set_option linter.unusedSimpArgs false
set_option maxHeartbeats 4000000
namespace Go.Proofs.YtodnphnbnneegaaDoor.VL
open Go.RowKit Go.Proofs

theorem cutX_text (a b : Nat) : cutX (catB (catB (textB (bytN a)) ⟨#[47]⟩) (decB b)) = textB (bytN a) := by
  have e : (catB (catB (textB (bytN a)) ⟨#[47]⟩) (decB b)).data.toList = (textB (bytN a)).data.toList ++ 47 :: Lib.decDigits b := by
    simp [catB, decB, ByteArray.data_append]
  unfold cutX
  rw [e, cut_app 47 (textB (bytN a)).data.toList (Lib.decDigits b) (text_ne47 a)]
theorem cutY_text (a b : Nat) : cutY (catB (catB (textB (bytN a)) ⟨#[47]⟩) (decB b)) = decB b := by
  have e : (catB (catB (textB (bytN a)) ⟨#[47]⟩) (decB b)).data.toList = (textB (bytN a)).data.toList ++ 47 :: Lib.decDigits b := by
    simp [catB, decB, ByteArray.data_append]
  unfold cutY
  rw [e, cut_app 47 (textB (bytN a)).data.toList (Lib.decDigits b) (text_ne47 a)]
  rfl
theorem pfx_bad (a b : Nat) (ha : a < 4294967296) (hb : b ≤ 32) (hv : validN a (b : Nat) = false) : pfxV (catB (catB (textB (bytN a)) ⟨#[47]⟩) (decB b)) = ((0, 0), false) := by
  have hn := numV_dec b 32 (by omega) hb
  rw [show ((32 : Nat) : Int) = 32 from rfl] at hn
  unfold pfxV
  rw [cutX_text, cutY_text, parseP_text a ha, hn]
  simp only [hv, if_true, Bool.false_eq_true, if_false]
theorem pfx_none (a : Nat) (ha : a < 4294967296) : pfxV (textB (bytN a)) = ((0, 0), false) := by
  have hc := cut_no 47 (textB (bytN a)).data.toList (text_ne47 a)
  have hy : cutY (textB (bytN a)) = ⟨#[]⟩ := by
    unfold cutY
    rw [hc]
  have hn : (numV ⟨#[]⟩ 32).2 = false := by decide +kernel
  unfold pfxV
  rw [hy, hn]
  split <;> rfl

theorem text_size (a : Nat) : (textB (bytN a)).size ≤ 15 := by
  have := text_len (bytN a) fun i _ => bytN_lt a i
  simpa [textB, joinDot, ByteArray.size] using this
theorem dec_size (b : Nat) (hb : b < 256) : (decB b).size ≤ 3 := by
  have := dec_len b hb
  simpa [decB, ByteArray.size] using this
theorem C_Num (n : Nat) (hn : n < 9223372036854775808) : AC Tryd.prog f_rivuletworld_Num [.lit (.int .i64 (n : Nat))] (avStr (decB n)) := by
  refine ac_rivuletworld_Num ?_ (Nat.le_add_left 1 _)
  simp only [go_sem, Nat.reduceAdd, Nat.reduceLT, Nat.reduceEqDiff, Nat.reduceBEq, Nat.reduceLeDiff, Nat.reduceSub, Int.reduceToNat, reduceCtorEq, ↓reduceIte, c_rivuletworld_Num]
  refine callX_of (C_Itoa n hn) ?_
  simp only [go_sem, Nat.reduceAdd, Nat.reduceLT, Nat.reduceEqDiff, Nat.reduceBEq, Nat.reduceLeDiff, Nat.reduceSub, Int.reduceToNat, reduceCtorEq, ↓reduceIte, avStr]

theorem errA_no : errA false = errO (some 4) := rfl
theorem is_addr : AC Tryd.prog f_rivuletsee_Is [errA false, .lit (.int .i64 108)] (.lit (.bool true)) :=
  C_Is (some 4) (fun i hi => by injection hi with hi; subst hi; decide) 108

theorem AC_AddrPrefixes (a : Nat) (n0 m0 : Int) (ha : a < 4294967296) : AC Tryd.prog f_rivuletlaw1_AddrPrefixes [avU a, .lit (.int .i64 n0), .lit (.int .i64 m0)] (.lit (.bool true)) := by
  refine ac_rivuletlaw1_AddrPrefixes ?_ (Nat.le_add_left 3 _)
  simp only [go_sem, Nat.reduceAdd, Nat.reduceLT, Nat.reduceEqDiff, Nat.reduceBEq, Nat.reduceLeDiff, Nat.reduceSub, Int.reduceToNat, reduceCtorEq, ↓reduceIte, c_rivuletlaw1_AddrPrefixes, avU]
  refine callX_of C_first1 ?_
  simp only [go_sem, Nat.reduceAdd, Nat.reduceLT, Nat.reduceEqDiff, Nat.reduceBEq, Nat.reduceLeDiff, Nat.reduceSub, Int.reduceToNat, reduceCtorEq, ↓reduceIte]
  refine callX_of (C_Number n0 32 (by decide) (by decide)) ?_
  have e0 := Int.emod_nonneg n0 (show (32 : Int) ≠ 0 by decide)
  have e1 := Int.emod_lt_of_pos n0 (show (0 : Int) < 32 by decide)
  obtain ⟨n, hn, hn32⟩ : ∃ n : Nat, n0 % 32 = (n : Int) ∧ n < 32 := ⟨(n0 % 32).toNat, by omega, by omega⟩
  have k1 : cl32 (n : Int) = n := by rw [cl32_eq _ (by omega) (by omega)]; simp
  have cp := C_Mask (n : Int)
  rw [k1] at cp
  have b1 : bits .and .u32 (a : Int) (mskN n : Nat) = ((a - a % 2 ^ (32 - n) : Nat) : Int) := u32_msk a n ha
  have w1 : IntKind.i64.wrap (32 - (n : Int)) = 32 - (n : Int) := by rw [IntKind.wrap_i64]; omega
  have e2 := Int.emod_nonneg m0 (show (32 - (n : Int)) ≠ 0 by omega)
  have e3 := Int.emod_lt_of_pos m0 (show (0 : Int) < 32 - (n : Int) by omega)
  obtain ⟨m, hm, hm32, hnm⟩ : ∃ m : Nat, IntKind.i64.wrap ((n : Int) + m0 % (32 - (n : Int))) = (m : Int) ∧ m < 32 ∧ n ≤ m := ⟨((n : Int) + m0 % (32 - (n : Int))).toNat, by rw [IntKind.wrap_i64]; omega, by omega, by omega⟩
  have hmod : (a - a % 2 ^ (32 - n)) % 2 ^ (32 - n) = 0 := by
    have := Nat.div_add_mod a (2 ^ (32 - n))
    have e : a - a % 2 ^ (32 - n) = 2 ^ (32 - n) * (a / 2 ^ (32 - n)) := by omega
    rw [e, Nat.mul_mod_right]
  have hlt : a - a % 2 ^ (32 - n) < 4294967296 := by omega
  generalize a - a % 2 ^ (32 - n) = p at b1 hmod hlt
  have w2 : IntKind.i64.wrap (31 - (m : Int)) = 31 - (m : Int) := by rw [IntKind.wrap_i64]; omega
  have w3 : IntKind.u64.wrap (31 - (m : Int)) = 31 - (m : Int) := by
    have : IntKind.u64.wrap (31 - (m : Int)) = (31 - (m : Int)) % 18446744073709551616 := by simp [IntKind.wrap, IntKind.bits, IntKind.signed]
    rw [this]
    omega
  have b4 := avBin_shl 23 .u32 .u64 1 (31 - (m : Int)) (by omega) (by simp [IntKind.bits]; omega)
  have hp2 : 2 ^ (31 - m) ≤ 2 ^ 31 := Nat.pow_le_pow_right (by decide) (by omega)
  have hp3 : 2 ^ (31 - m) < 2 ^ (32 - n) := Nat.pow_lt_pow_right (by decide) (by omega)
  have hp4 : 1 ≤ 2 ^ (31 - m) := Nat.one_le_two_pow
  have b5 : IntKind.u32.wrap (1 * 2 ^ (31 - (m : Int)).toNat) = ((2 ^ (31 - m) : Nat) : Int) := by
    have e : (31 - (m : Int)).toNat = 31 - m := by omega
    have e2 : (1 * 2 ^ (31 - m) : Int) = ((2 ^ (31 - m) : Nat) : Int) := by simp
    rw [e, e2, IntKind.wrap_u32]
    exact nat_mod32 _ (Nat.lt_of_le_of_lt hp2 (by decide))
  have b6 : bits .or .u32 (p : Nat) ((2 ^ (31 - m) : Nat) : Int) = ((p + 2 ^ (31 - m) : Nat) : Int) := by
    rw [u32_or_nat _ _ hlt (Nat.lt_of_le_of_lt hp2 (by decide)), nat_join (32 - n) _ _ hmod hp3]
  have hq : p + 2 ^ (31 - m) < 4294967296 := by
    have h1 : 2 ^ 32 = 2 ^ n * 2 ^ (32 - n) := by rw [← Nat.pow_add]; congr 1; omega
    have h2 := Nat.div_add_mod p (2 ^ (32 - n))
    rw [hmod, Nat.add_zero] at h2
    have h3 : p / 2 ^ (32 - n) < 2 ^ n := by
      rw [Nat.div_lt_iff_lt_mul (Nat.pos_of_ne_zero (by simp)), ← h1]
      exact hlt
    have h4 : (p / 2 ^ (32 - n) + 1) * 2 ^ (32 - n) ≤ 2 ^ n * 2 ^ (32 - n) := Nat.mul_le_mul_right _ h3
    rw [← h1, Nat.add_mul, Nat.one_mul, Nat.mul_comm, h2] at h4
    have : (2 : Nat) ^ 32 = 4294967296 := rfl
    omega
  have hqm : (p + 2 ^ (31 - m)) % 2 ^ (32 - n) = 2 ^ (31 - m) := by
    rw [Nat.add_mod, hmod, Nat.zero_add, Nat.mod_mod, Nat.mod_eq_of_lt hp3]
  have vp : validN p (n : Int) = true := by
    simp only [validN, Bool.and_eq_true, decide_eq_true_eq, Int.toNat_natCast]
    exact ⟨by omega, by omega, hmod⟩
  have vq : validN (p + 2 ^ (31 - m)) (n : Int) = false := by
    simp only [validN, Int.toNat_natCast, hqm, Bool.and_eq_false_iff, decide_eq_false_iff_not]
    exact .inr (.inr (by omega))
  have iq : inN (p + 2 ^ (31 - m)) (n : Int) (p + 2 ^ (31 - m)) = false := by
    simp only [inN, vq, Bool.false_and]
  have ip : inN p (n : Int) (p + 2 ^ (31 - m)) = true := by
    simp only [inN, vp, Bool.true_and, Int.toNat_natCast, hqm, decide_eq_true_eq]
    omega
  generalize 2 ^ (31 - m) = x at b5 b6 hq vq iq ip
  generalize p + x = q at b6 hq vq iq ip
  have cvp := C_Valid p (n : Int) hlt
  have cvq := C_Valid q (n : Int) hq
  have ciq := C_In q (n : Int) q hq hq
  have cip := C_In p (n : Int) q hlt hq
  rw [vp] at cvp
  rw [vq] at cvq
  rw [iq] at ciq
  rw [ip] at cip
  have ht := C_Text' q hq
  have htp := C_Text' p hlt
  have hs1 := text_size q
  have hs2 := dec_size n (by omega)
  have hs4 := text_size p
  have a1 := avBin_sadd 9 (textB (bytN q)) ⟨#[47]⟩ (by show _ + 1 < _; omega)
  have hs3 : (catB (textB (bytN q)) ⟨#[47]⟩).size = (textB (bytN q)).size + 1 := by simp [catB, ByteArray.size_append]; rfl
  have a2 := avBin_sadd 9 (catB (textB (bytN q)) ⟨#[47]⟩) (decB n) (by omega)
  have hpp := C_ParsePrefix (catB (catB (textB (bytN q)) ⟨#[47]⟩) (decB n)) (by
    have : (catB (catB (textB (bytN q)) ⟨#[47]⟩) (decB n)).size = (catB (textB (bytN q)) ⟨#[47]⟩).size + (decB n).size := by simp only [catB, ByteArray.size_append]
    omega)
  rw [pfx_bad q n hq (by omega) vq] at hpp
  have hpn := C_ParsePrefix (textB (bytN p)) (by omega)
  rw [pfx_none p hlt] at hpn
  have hi := is_addr
  simp only [errA, avPfx, avU, Bool.false_eq_true, if_false, c0] at hpp hpn hi
  simp only [go_sem, Nat.reduceAdd, Nat.reduceLT, Nat.reduceEqDiff, Nat.reduceBEq, Nat.reduceLeDiff, Nat.reduceSub, Int.reduceToNat, reduceCtorEq, ↓reduceIte, hn]
  refine callX_of cp ?_
  simp only [go_sem, Nat.reduceAdd, Nat.reduceLT, Nat.reduceEqDiff, Nat.reduceBEq, Nat.reduceLeDiff, Nat.reduceSub, Int.reduceToNat, reduceCtorEq, ↓reduceIte, avU, b1, w1]
  refine callX_of (C_Number m0 (32 - (n : Int)) (by omega) (by omega)) ?_
  simp only [go_sem, Nat.reduceAdd, Nat.reduceLT, Nat.reduceEqDiff, Nat.reduceBEq, Nat.reduceLeDiff, Nat.reduceSub, Int.reduceToNat, reduceCtorEq, ↓reduceIte, avU, hm, w2, w3, b4, b5, b6]
  refine callX_of ht ?_
  simp only [go_sem, Nat.reduceAdd, Nat.reduceLT, Nat.reduceEqDiff, Nat.reduceBEq, Nat.reduceLeDiff, Nat.reduceSub, Int.reduceToNat, reduceCtorEq, ↓reduceIte, avStr, a1]
  refine callX_of (C_Num n (by omega)) ?_
  simp only [go_sem, Nat.reduceAdd, Nat.reduceLT, Nat.reduceEqDiff, Nat.reduceBEq, Nat.reduceLeDiff, Nat.reduceSub, Int.reduceToNat, reduceCtorEq, ↓reduceIte, avStr, a2]
  refine callX_of hpp ?_
  simp only [go_sem, Nat.reduceAdd, Nat.reduceLT, Nat.reduceEqDiff, Nat.reduceBEq, Nat.reduceLeDiff, Nat.reduceSub, Int.reduceToNat, reduceCtorEq, ↓reduceIte, avStr]
  refine callX_of htp ?_
  simp only [go_sem, Nat.reduceAdd, Nat.reduceLT, Nat.reduceEqDiff, Nat.reduceBEq, Nat.reduceLeDiff, Nat.reduceSub, Int.reduceToNat, reduceCtorEq, ↓reduceIte, avStr]
  refine callX_of hpn ?_
  simp only [go_sem, Nat.reduceAdd, Nat.reduceLT, Nat.reduceEqDiff, Nat.reduceBEq, Nat.reduceLeDiff, Nat.reduceSub, Int.reduceToNat, reduceCtorEq, ↓reduceIte, avStr]
  refine callX_of cvp ?_
  simp only [go_sem, Nat.reduceAdd, Nat.reduceLT, Nat.reduceEqDiff, Nat.reduceBEq, Nat.reduceLeDiff, Nat.reduceSub, Int.reduceToNat, reduceCtorEq, ↓reduceIte, avStr]
  refine callX_of cvq ?_
  simp only [go_sem, Nat.reduceAdd, Nat.reduceLT, Nat.reduceEqDiff, Nat.reduceBEq, Nat.reduceLeDiff, Nat.reduceSub, Int.reduceToNat, reduceCtorEq, ↓reduceIte, avStr]
  refine callX_of ciq ?_
  simp only [go_sem, Nat.reduceAdd, Nat.reduceLT, Nat.reduceEqDiff, Nat.reduceBEq, Nat.reduceLeDiff, Nat.reduceSub, Int.reduceToNat, reduceCtorEq, ↓reduceIte, avStr]
  refine callX_of cip ?_
  simp only [go_sem, Nat.reduceAdd, Nat.reduceLT, Nat.reduceEqDiff, Nat.reduceBEq, Nat.reduceLeDiff, Nat.reduceSub, Int.reduceToNat, reduceCtorEq, ↓reduceIte, avStr]
  refine callX_of hi ?_
  simp only [go_sem, Nat.reduceAdd, Nat.reduceLT, Nat.reduceEqDiff, Nat.reduceBEq, Nat.reduceLeDiff, Nat.reduceSub, Int.reduceToNat, reduceCtorEq, ↓reduceIte, avStr]
  refine callX_of hi ?_
  simp only [go_sem, Nat.reduceAdd, Nat.reduceLT, Nat.reduceEqDiff, Nat.reduceBEq, Nat.reduceLeDiff, Nat.reduceSub, Int.reduceToNat, reduceCtorEq, ↓reduceIte, avStr]

end Go.Proofs.YtodnphnbnneegaaDoor.VL
