/- rivuletlaw1.AddrGroups, AddrBack: the walks. -/
import Derived.Test.YtodnphnbnneegaaDoorAddrRef
import Derived.Test.YtodnphnbnneegaaDoorSpl
set_option linter.unusedVariables false
set_option linter.unusedSimpArgs false
set_option maxHeartbeats 4000000
namespace Go.Proofs.YtodnphnbnneegaaDoor.VL
open Go.RowKit Go.Proofs

theorem v224 : validN 3758096384 ((4 : Nat) : Int) = true := by decide +kernel
theorem t224 : catB (catB (textB (bytN 3758096384)) ⟨#[47]⟩) (decB 4) = ⟨#[50, 50, 52, 46, 48, 46, 48, 46, 48, 47, 52]⟩ := by decide +kernel
theorem p224 : pfxV ⟨#[50, 50, 52, 46, 48, 46, 48, 46, 48, 47, 52]⟩ = ((3758096384, ((4 : Nat) : Int)), true) := by
  rw [← t224]
  exact pfx_text 3758096384 4 (by omega) (by omega) v224

theorem in224 (A a : Nat) (hA : A = 3758096384) (hv : validN A ((4 : Nat) : Int) = true) (ha : a < 4294967296) : inN A ((4 : Nat) : Int) a = groupN a := by
  simp only [inN, hv, Bool.true_and, groupN, Int.toNat_natCast, Nat.reduceSub]
  rw [Bool.eq_iff_iff]
  simp only [Bool.and_eq_true, decide_eq_true_eq]
  have : (2 : Nat) ^ 28 = 268435456 := rfl
  rw [this]
  omega
theorem grp_hi (a : Nat) (h : 3758096384 ≤ a) : groupN a = decide ((a : Int) < 4026531840) := by
  unfold groupN
  rw [decide_eq_true h, Bool.true_and, decide_eq_decide]
  omega
theorem grp_lo (a : Nat) (h : ¬ 3758096384 ≤ a) : groupN a = false := by
  unfold groupN
  rw [decide_eq_false h, Bool.false_and]

theorem AC_AddrGroups (a : Nat) (ha : a < 4294967296) : AC Tryd.prog f_rivuletlaw1_AddrGroups [avU a] (.lit (.bool true)) := by
  refine ac_rivuletlaw1_AddrGroups ?_ (Nat.le_add_left 1 _)
  have hp := C_ParsePrefix ⟨#[50, 50, 52, 46, 48, 46, 48, 46, 48, 47, 52]⟩ (by decide)
  rw [p224] at hp
  obtain ⟨A, hA⟩ : ∃ A : Nat, A = 3758096384 := ⟨_, rfl⟩
  have hv := v224
  rw [← hA] at hp hv
  have hAl : A < 4294967296 := by omega
  have hg := C_Group a ha
  have hi := C_In A ((4 : Nat) : Int) a hAl ha
  have e3 := in224 A a hA hv ha
  rw [e3] at hi
  have hr := C_rValid A ((4 : Nat) : Int) hAl
  rw [hv] at hr
  clear e3 hv hA
  simp only [go_sem, Nat.reduceAdd, Nat.reduceLT, Nat.reduceEqDiff, Nat.reduceBEq, Nat.reduceLeDiff, Nat.reduceSub, Int.reduceToNat, reduceCtorEq, ↓reduceIte, c_rivuletlaw1_AddrGroups]
  refine callX_of C_first1 ?_
  simp only [go_sem, Nat.reduceAdd, Nat.reduceLT, Nat.reduceEqDiff, Nat.reduceBEq, Nat.reduceLeDiff, Nat.reduceSub, Int.reduceToNat, reduceCtorEq, ↓reduceIte]
  refine callX_of hp ?_
  simp only [go_sem, Nat.reduceAdd, Nat.reduceLT, Nat.reduceEqDiff, Nat.reduceBEq, Nat.reduceLeDiff, Nat.reduceSub, Int.reduceToNat, reduceCtorEq, ↓reduceIte, errA, avPfx, avU]
  refine callX_of hg ?_
  simp only [go_sem, Nat.reduceAdd, Nat.reduceLT, Nat.reduceEqDiff, Nat.reduceBEq, Nat.reduceLeDiff, Nat.reduceSub, Int.reduceToNat, reduceCtorEq, ↓reduceIte, errA, avPfx, avU]
  refine callX_of hi ?_
  simp only [go_sem, Nat.reduceAdd, Nat.reduceLT, Nat.reduceEqDiff, Nat.reduceBEq, Nat.reduceLeDiff, Nat.reduceSub, Int.reduceToNat, reduceCtorEq, ↓reduceIte, errA, avPfx, avU, beq_self_eq_true]
  refine callX_of hg ?_
  by_cases h : 3758096384 ≤ a
  · have h1 : ((3758096384 : Int) ≤ (a : Int)) = True := eq_true (by omega)
    have h2 := (grp_hi a h).symm
    simp only [go_sem, Nat.reduceAdd, Nat.reduceLT, Nat.reduceEqDiff, Nat.reduceBEq, Nat.reduceLeDiff, Nat.reduceSub, Int.reduceToNat, reduceCtorEq, ↓reduceIte, errA, avPfx, avU, h1, h2, decide_true, beq_self_eq_true]
    refine callX_of hr ?_
    simp only [go_sem, Nat.reduceAdd, Nat.reduceLT, Nat.reduceEqDiff, Nat.reduceBEq, Nat.reduceLeDiff, Nat.reduceSub, Int.reduceToNat, reduceCtorEq, ↓reduceIte]
  · have h1 : ((3758096384 : Int) ≤ (a : Int)) = False := eq_false (by omega)
    have h2 := grp_lo a h
    simp only [go_sem, Nat.reduceAdd, Nat.reduceLT, Nat.reduceEqDiff, Nat.reduceBEq, Nat.reduceLeDiff, Nat.reduceSub, Int.reduceToNat, reduceCtorEq, ↓reduceIte, errA, avPfx, avU, h1, h2, decide_false, beq_self_eq_true]
    refine callX_of hr ?_
    simp only [go_sem, Nat.reduceAdd, Nat.reduceLT, Nat.reduceEqDiff, Nat.reduceBEq, Nat.reduceLeDiff, Nat.reduceSub, Int.reduceToNat, reduceCtorEq, ↓reduceIte]

theorem text_inj (a b : Nat) (ha : a < 4294967296) (hb : b < 4294967296) : ((textB (bytN a)).toList == (textB (bytN b)).toList) = ((a : Int) == (b : Int)) := by
  rw [nat_beq, Bool.eq_iff_iff, beq_iff_eq, decide_eq_true_eq]
  constructor
  · intro h
    rw [ByteArray.toList_eq, ByteArray.toList_eq] at h
    have e : textB (bytN a) = textB (bytN b) := by rw [← toB_data (textB (bytN a)), h, toB_data]
    have h1 := parseP_text a ha
    rw [e, parseP_text b hb] at h1
    injection h1 with h1
    exact h1.symm
  · intro h
    rw [h]

theorem AC_AddrBack (a b : Nat) (n0 : Int) (ha : a < 4294967296) (hb : b < 4294967296) : AC Tryd.prog f_rivuletlaw1_AddrBack [avU a, avU b, .lit (.int .i64 n0)] (.lit (.bool true)) := by
  refine ac_rivuletlaw1_AddrBack ?_ (Nat.le_add_left 3 _)
  simp only [go_sem, Nat.reduceAdd, Nat.reduceLT, Nat.reduceEqDiff, Nat.reduceBEq, Nat.reduceLeDiff, Nat.reduceSub, Int.reduceToNat, reduceCtorEq, ↓reduceIte, c_rivuletlaw1_AddrBack, avU]
  refine callX_of C_first1 ?_
  simp only [go_sem, Nat.reduceAdd, Nat.reduceLT, Nat.reduceEqDiff, Nat.reduceBEq, Nat.reduceLeDiff, Nat.reduceSub, Int.reduceToNat, reduceCtorEq, ↓reduceIte]
  refine callX_of (C_Number n0 33 (by decide) (by decide)) ?_
  have e0 := Int.emod_nonneg n0 (show (33 : Int) ≠ 0 by decide)
  have e1 := Int.emod_lt_of_pos n0 (show (0 : Int) < 33 by decide)
  obtain ⟨n, hn, hn32⟩ : ∃ n : Nat, n0 % 33 = (n : Int) ∧ n ≤ 32 := ⟨(n0 % 33).toNat, by omega, by omega⟩
  have k1 : cl32 (n : Int) = n := by rw [cl32_eq _ (by omega) (by omega)]; simp
  have cp := C_Mask (n : Int)
  rw [k1] at cp
  have b1 : bits .and .u32 (a : Int) (mskN n : Nat) = ((a - a % 2 ^ (32 - n) : Nat) : Int) := u32_msk a n ha
  have hv : validN (a - a % 2 ^ (32 - n)) (n : Int) = true := by
    simp only [validN, Bool.and_eq_true, decide_eq_true_eq, Int.toNat_natCast]
    refine ⟨by omega, by omega, ?_⟩
    have := Nat.div_add_mod a (2 ^ (32 - n))
    have e : a - a % 2 ^ (32 - n) = 2 ^ (32 - n) * (a / 2 ^ (32 - n)) := by omega
    rw [e, Nat.mul_mod_right]
  have hlt : a - a % 2 ^ (32 - n) < 4294967296 := by omega
  generalize a - a % 2 ^ (32 - n) = p at b1 hv hlt
  have ht := C_Text' a ha
  have htb := C_Text' b hb
  have hta := text_len (bytN a) fun i _ => bytN_lt a i
  have hsz : (textB (bytN a)).size ≤ 15 := by simpa [textB, joinDot, ByteArray.size] using hta
  have hps := C_Parse (textB (bytN a)) (by omega)
  rw [parseP_text a ha] at hps
  have hpt := C_PrefixText p n hlt hn32
  have hpl : (textB (bytN p)).size ≤ 15 := by
    have := text_len (bytN p) fun i _ => bytN_lt p i
    simpa [textB, joinDot, ByteArray.size] using this
  have hdl : (decB n).size ≤ 3 := by
    have := dec_len n (by omega)
    simpa [decB, ByteArray.size] using this
  have hpp := C_ParsePrefix (catB (catB (textB (bytN p)) ⟨#[47]⟩) (decB n)) (by
    have : (catB (catB (textB (bytN p)) ⟨#[47]⟩) (decB n)).size = (textB (bytN p)).size + 1 + (decB n).size := by
      simp only [catB, ByteArray.size_append]
      rfl
    omega)
  rw [pfx_text p n hlt hn32 hv] at hpp
  have hsp := C_SamePrefix p (n : Int) p (n : Int)
  have hvl := C_Valid p (n : Int) hlt
  rw [hv] at hvl
  simp only [go_sem, Nat.reduceAdd, Nat.reduceLT, Nat.reduceEqDiff, Nat.reduceBEq, Nat.reduceLeDiff, Nat.reduceSub, Int.reduceToNat, reduceCtorEq, ↓reduceIte, hn]
  refine callX_of cp ?_
  simp only [go_sem, Nat.reduceAdd, Nat.reduceLT, Nat.reduceEqDiff, Nat.reduceBEq, Nat.reduceLeDiff, Nat.reduceSub, Int.reduceToNat, reduceCtorEq, ↓reduceIte, avU, b1]
  refine callX_of ht ?_
  simp only [go_sem, Nat.reduceAdd, Nat.reduceLT, Nat.reduceEqDiff, Nat.reduceBEq, Nat.reduceLeDiff, Nat.reduceSub, Int.reduceToNat, reduceCtorEq, ↓reduceIte, avStr]
  refine callX_of hps ?_
  simp only [go_sem, Nat.reduceAdd, Nat.reduceLT, Nat.reduceEqDiff, Nat.reduceBEq, Nat.reduceLeDiff, Nat.reduceSub, Int.reduceToNat, reduceCtorEq, ↓reduceIte, avU, errA]
  refine callX_of hpt ?_
  simp only [go_sem, Nat.reduceAdd, Nat.reduceLT, Nat.reduceEqDiff, Nat.reduceBEq, Nat.reduceLeDiff, Nat.reduceSub, Int.reduceToNat, reduceCtorEq, ↓reduceIte, avStr]
  refine callX_of hpp ?_
  simp only [go_sem, Nat.reduceAdd, Nat.reduceLT, Nat.reduceEqDiff, Nat.reduceBEq, Nat.reduceLeDiff, Nat.reduceSub, Int.reduceToNat, reduceCtorEq, ↓reduceIte, avPfx, avU, errA, beq_self_eq_true]
  refine callX_of hsp ?_
  simp only [go_sem, Nat.reduceAdd, Nat.reduceLT, Nat.reduceEqDiff, Nat.reduceBEq, Nat.reduceLeDiff, Nat.reduceSub, Int.reduceToNat, reduceCtorEq, ↓reduceIte, avPfx, avU, errA, beq_self_eq_true, decide_true, Bool.and_self]
  refine callX_of ht ?_
  simp only [go_sem, Nat.reduceAdd, Nat.reduceLT, Nat.reduceEqDiff, Nat.reduceBEq, Nat.reduceLeDiff, Nat.reduceSub, Int.reduceToNat, reduceCtorEq, ↓reduceIte, avStr]
  refine callX_of htb ?_
  simp only [go_sem, Nat.reduceAdd, Nat.reduceLT, Nat.reduceEqDiff, Nat.reduceBEq, Nat.reduceLeDiff, Nat.reduceSub, Int.reduceToNat, reduceCtorEq, ↓reduceIte, avStr, text_inj a b ha hb, beq_self_eq_true]
  refine callX_of hvl ?_
  simp only [go_sem, Nat.reduceAdd, Nat.reduceLT, Nat.reduceEqDiff, Nat.reduceBEq, Nat.reduceLeDiff, Nat.reduceSub, Int.reduceToNat, reduceCtorEq, ↓reduceIte]

end Go.Proofs.YtodnphnbnneegaaDoor.VL
