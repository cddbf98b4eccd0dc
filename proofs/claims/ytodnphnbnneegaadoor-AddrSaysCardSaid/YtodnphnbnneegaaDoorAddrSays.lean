/- rivuletlaw1.AddrSays: the walk. -/
import Derived.Test.YtodnphnbnneegaaDoorSaysLaw
set_option linter.unusedVariables false
set_option linter.unusedSimpArgs false
set_option maxHeartbeats 8000000
namespace Go.Proofs.YtodnphnbnneegaaDoor.VL
open Go.RowKit Go.Proofs

theorem pfxV_lt (s : ByteArray) : (pfxV s).1.1 < 4294967296 := by
  unfold pfxV
  repeat' split
  all_goals first | exact parseP_lt _ | decide
theorem pfxV_no {s : ByteArray} (h : (pfxV s).2 = false) : pfxV s = ((0, 0), false) := by
  unfold pfxV at h ⊢
  repeat' split
  all_goals first | rfl | (simp_all; done)

theorem within_eq (p : Nat) (b : Int) (q : Nat) (c : Int) : (withinN p b q c == (if validN q c = true then withinN p b q c else false)) = true := by
  cases h : validN q c
  · have : withinN p b q c = false := by simp [withinN, inN, h]
    rw [this]
    rfl
  · simp

theorem AC_AddrSays (s : ByteArray) (a : Nat) (p : Nat) (pb : Int) (q : Nat) (qb : Int) (n0 : Int) (ha : a < 4294967296) (hp : p < 4294967296) (hq : q < 4294967296) :
    AC Tryd.prog f_rivuletlaw1_AddrSays [avStr s, avU a, avPfx p pb, avPfx q qb, .lit (.int .i64 n0)] (.lit (.bool true)) := by
  refine ac_rivuletlaw1_AddrSays ?_ (Nat.le_add_left 5 _)
  simp only [go_sem, Nat.reduceAdd, Nat.reduceLT, Nat.reduceEqDiff, Nat.reduceBEq, Nat.reduceLeDiff, Nat.reduceSub, Int.reduceToNat, reduceCtorEq, ↓reduceIte, c_rivuletlaw1_AddrSays, avStr, avU, avPfx]
  refine callX_of C_first1 ?_
  simp only [go_sem, Nat.reduceAdd, Nat.reduceLT, Nat.reduceEqDiff, Nat.reduceBEq, Nat.reduceLeDiff, Nat.reduceSub, Int.reduceToNat, reduceCtorEq, ↓reduceIte]
  by_cases h60 : 60 < s.size
  · have e : ((60 : Int) < (s.size : Int)) = True := eq_true (by omega)
    simp only [go_sem, Nat.reduceAdd, Nat.reduceLT, Nat.reduceEqDiff, Nat.reduceBEq, Nat.reduceLeDiff, Nat.reduceSub, Int.reduceToNat, reduceCtorEq, ↓reduceIte, e, decide_true]
  have e : ((60 : Int) < (s.size : Int)) = False := eq_false (by omega)
  have hP := C_Parse s (by omega)
  have hR := C_rParse s (by omega)
  rw [parse_eq s] at hR
  have hX := C_ParsePrefix s (by omega)
  have hY := C_rParsePrefix s (by omega)
  rw [pfx_eq s] at hY
  generalize parseP (parts s 46) = x at hP hR
  have hSP := C_SamePrefix (pfxV s).1.1 (pfxV s).1.2 (pfxV s).1.1 (pfxV s).1.2
  rw [decide_eq_true rfl, beq_self_eq_true, Bool.and_self] at hSP
  generalize pfxV s = y at hX hY hSP
  obtain ⟨x, is⟩ := x
  obtain ⟨⟨u, ub⟩, has⟩ := y
  have hi := is_addr
  have hB := C_Bytes a ha
  have hT := C_Text' a ha
  have hrT := C_rText a ha
  have hM := C_Mask n0
  have hrM := C_rMask n0
  have hV := C_Valid p pb hp
  have hrV := C_rValid p pb hp
  have hIn := C_In p pb a hp ha
  have hrIn := C_rIn p pb a hp ha
  have hW := C_Within p pb q qb hp hq
  have hrVq := C_rValid q qb hq
  have hrW := C_rWithin p pb q qb hp hq
  have hG := C_Group a ha
  have hrG := C_rGroup a ha
  have hO := C_Of (bytN a) (fun i _ => bytN_lt a i)
  rw [ofB_bytN a ha] at hO
  have hwe := within_eq p pb q qb
  have s24 := avBin_shr 23 .u32 .u64 (a : Int) 24 (by decide) (by decide)
  have d0 : (a : Int) / 2 ^ 24 = ((bytN a 0 : Nat) : Int) := by simp only [bytN, Nat.sub_zero, Nat.reduceMul, Nat.reducePow, Int.reducePow]; omega
  have l3 : bits .and .u32 (a : Int) 255 = ((bytN a 3 : Nat) : Int) := by rw [low8 _ ha]; simp [bytN]
  have u0 := u8_i64 (bytN a 0) (bytN_lt a 0)
  have u3 := u8_i64 (bytN a 3) (bytN_lt a 3)
  simp only [errA, avPfx, avU, avStr, avBytes, avB, Bool.false_eq_true, if_false] at hP hR hX hY hSP hi hB hT hrT hM hrM hV hrV hIn hrIn hW hrVq hrW hG hrG hO
  cases is <;> cases has <;> simp only [Bool.false_eq_true, if_false, if_true] at hP hX <;> (
    simp only [go_sem, Nat.reduceAdd, Nat.reduceLT, Nat.reduceEqDiff, Nat.reduceBEq, Nat.reduceLeDiff, Nat.reduceSub, Int.reduceToNat, reduceCtorEq, ↓reduceIte, avStr, e, decide_false, bne_self_eq_false, bbeq_tt, bbeq_tf, bbeq_ft, bbeq_ff, beq_self_eq_true, Bool.not_true, Bool.not_false, c0, c1, c2, c3, c4, Int.reduceLT, Int.reduceLE, Nat.reduceMul]
    refine callX_of hP ?_
    simp only [go_sem, Nat.reduceAdd, Nat.reduceLT, Nat.reduceEqDiff, Nat.reduceBEq, Nat.reduceLeDiff, Nat.reduceSub, Int.reduceToNat, reduceCtorEq, ↓reduceIte, avStr, e, decide_false, bne_self_eq_false, bbeq_tt, bbeq_tf, bbeq_ft, bbeq_ff, beq_self_eq_true, Bool.not_true, Bool.not_false, c0, c1, c2, c3, c4, Int.reduceLT, Int.reduceLE, Nat.reduceMul]
    refine callX_of hR ?_
    simp only [go_sem, Nat.reduceAdd, Nat.reduceLT, Nat.reduceEqDiff, Nat.reduceBEq, Nat.reduceLeDiff, Nat.reduceSub, Int.reduceToNat, reduceCtorEq, ↓reduceIte, avStr, e, decide_false, bne_self_eq_false, bbeq_tt, bbeq_tf, bbeq_ft, bbeq_ff, beq_self_eq_true, Bool.not_true, Bool.not_false, c0, c1, c2, c3, c4, Int.reduceLT, Int.reduceLE, Nat.reduceMul]
    refine callX_of hX ?_
    simp only [go_sem, Nat.reduceAdd, Nat.reduceLT, Nat.reduceEqDiff, Nat.reduceBEq, Nat.reduceLeDiff, Nat.reduceSub, Int.reduceToNat, reduceCtorEq, ↓reduceIte, avStr, e, decide_false, bne_self_eq_false, bbeq_tt, bbeq_tf, bbeq_ft, bbeq_ff, beq_self_eq_true, Bool.not_true, Bool.not_false, c0, c1, c2, c3, c4, Int.reduceLT, Int.reduceLE, Nat.reduceMul]
    refine callX_of hY ?_
    simp only [go_sem, Nat.reduceAdd, Nat.reduceLT, Nat.reduceEqDiff, Nat.reduceBEq, Nat.reduceLeDiff, Nat.reduceSub, Int.reduceToNat, reduceCtorEq, ↓reduceIte, avStr, e, decide_false, bne_self_eq_false, bbeq_tt, bbeq_tf, bbeq_ft, bbeq_ff, beq_self_eq_true, Bool.not_true, Bool.not_false, c0, c1, c2, c3, c4, Int.reduceLT, Int.reduceLE, Nat.reduceMul]
    refine callX_of hSP ?_
    simp only [go_sem, Nat.reduceAdd, Nat.reduceLT, Nat.reduceEqDiff, Nat.reduceBEq, Nat.reduceLeDiff, Nat.reduceSub, Int.reduceToNat, reduceCtorEq, ↓reduceIte, avStr, e, decide_false, bne_self_eq_false, bbeq_tt, bbeq_tf, bbeq_ft, bbeq_ff, beq_self_eq_true, Bool.not_true, Bool.not_false, c0, c1, c2, c3, c4, Int.reduceLT, Int.reduceLE, Nat.reduceMul]
    repeat (
      refine callX_of hi ?_
      simp only [go_sem, Nat.reduceAdd, Nat.reduceLT, Nat.reduceEqDiff, Nat.reduceBEq, Nat.reduceLeDiff, Nat.reduceSub, Int.reduceToNat, reduceCtorEq, ↓reduceIte, avStr, e, decide_false, bne_self_eq_false, bbeq_tt, bbeq_tf, bbeq_ft, bbeq_ff, beq_self_eq_true, Bool.not_true, Bool.not_false, c0, c1, c2, c3, c4, Int.reduceLT, Int.reduceLE, Nat.reduceMul])
    refine callX_of hB ?_
    simp only [go_sem, Nat.reduceAdd, Nat.reduceLT, Nat.reduceEqDiff, Nat.reduceBEq, Nat.reduceLeDiff, Nat.reduceSub, Int.reduceToNat, reduceCtorEq, ↓reduceIte, avStr, e, decide_false, bne_self_eq_false, bbeq_tt, bbeq_tf, bbeq_ft, bbeq_ff, beq_self_eq_true, Bool.not_true, Bool.not_false, c0, c1, c2, c3, c4, Int.reduceLT, Int.reduceLE, Nat.reduceMul]
    refine callX_of hT ?_
    simp only [go_sem, Nat.reduceAdd, Nat.reduceLT, Nat.reduceEqDiff, Nat.reduceBEq, Nat.reduceLeDiff, Nat.reduceSub, Int.reduceToNat, reduceCtorEq, ↓reduceIte, avStr, e, decide_false, bne_self_eq_false, bbeq_tt, bbeq_tf, bbeq_ft, bbeq_ff, beq_self_eq_true, Bool.not_true, Bool.not_false, c0, c1, c2, c3, c4, Int.reduceLT, Int.reduceLE, Nat.reduceMul]
    refine callX_of hrT ?_
    simp only [go_sem, Nat.reduceAdd, Nat.reduceLT, Nat.reduceEqDiff, Nat.reduceBEq, Nat.reduceLeDiff, Nat.reduceSub, Int.reduceToNat, reduceCtorEq, ↓reduceIte, avStr, e, decide_false, bne_self_eq_false, bbeq_tt, bbeq_tf, bbeq_ft, bbeq_ff, beq_self_eq_true, Bool.not_true, Bool.not_false, c0, c1, c2, c3, c4, Int.reduceLT, Int.reduceLE, Nat.reduceMul]
    refine callX_of hM ?_
    simp only [go_sem, Nat.reduceAdd, Nat.reduceLT, Nat.reduceEqDiff, Nat.reduceBEq, Nat.reduceLeDiff, Nat.reduceSub, Int.reduceToNat, reduceCtorEq, ↓reduceIte, avStr, e, decide_false, bne_self_eq_false, bbeq_tt, bbeq_tf, bbeq_ft, bbeq_ff, beq_self_eq_true, Bool.not_true, Bool.not_false, c0, c1, c2, c3, c4, Int.reduceLT, Int.reduceLE, Nat.reduceMul]
    refine callX_of hrM ?_
    simp only [go_sem, Nat.reduceAdd, Nat.reduceLT, Nat.reduceEqDiff, Nat.reduceBEq, Nat.reduceLeDiff, Nat.reduceSub, Int.reduceToNat, reduceCtorEq, ↓reduceIte, avStr, e, decide_false, bne_self_eq_false, bbeq_tt, bbeq_tf, bbeq_ft, bbeq_ff, beq_self_eq_true, Bool.not_true, Bool.not_false, c0, c1, c2, c3, c4, Int.reduceLT, Int.reduceLE, Nat.reduceMul]
    refine callX_of hV ?_
    simp only [go_sem, Nat.reduceAdd, Nat.reduceLT, Nat.reduceEqDiff, Nat.reduceBEq, Nat.reduceLeDiff, Nat.reduceSub, Int.reduceToNat, reduceCtorEq, ↓reduceIte, avStr, e, decide_false, bne_self_eq_false, bbeq_tt, bbeq_tf, bbeq_ft, bbeq_ff, beq_self_eq_true, Bool.not_true, Bool.not_false, c0, c1, c2, c3, c4, Int.reduceLT, Int.reduceLE, Nat.reduceMul]
    refine callX_of hrV ?_
    simp only [go_sem, Nat.reduceAdd, Nat.reduceLT, Nat.reduceEqDiff, Nat.reduceBEq, Nat.reduceLeDiff, Nat.reduceSub, Int.reduceToNat, reduceCtorEq, ↓reduceIte, avStr, e, decide_false, bne_self_eq_false, bbeq_tt, bbeq_tf, bbeq_ft, bbeq_ff, beq_self_eq_true, Bool.not_true, Bool.not_false, c0, c1, c2, c3, c4, Int.reduceLT, Int.reduceLE, Nat.reduceMul]
    refine callX_of hIn ?_
    simp only [go_sem, Nat.reduceAdd, Nat.reduceLT, Nat.reduceEqDiff, Nat.reduceBEq, Nat.reduceLeDiff, Nat.reduceSub, Int.reduceToNat, reduceCtorEq, ↓reduceIte, avStr, e, decide_false, bne_self_eq_false, bbeq_tt, bbeq_tf, bbeq_ft, bbeq_ff, beq_self_eq_true, Bool.not_true, Bool.not_false, c0, c1, c2, c3, c4, Int.reduceLT, Int.reduceLE, Nat.reduceMul]
    refine callX_of hrIn ?_
    simp only [go_sem, Nat.reduceAdd, Nat.reduceLT, Nat.reduceEqDiff, Nat.reduceBEq, Nat.reduceLeDiff, Nat.reduceSub, Int.reduceToNat, reduceCtorEq, ↓reduceIte, avStr, e, decide_false, bne_self_eq_false, bbeq_tt, bbeq_tf, bbeq_ft, bbeq_ff, beq_self_eq_true, Bool.not_true, Bool.not_false, c0, c1, c2, c3, c4, Int.reduceLT, Int.reduceLE, Nat.reduceMul]
    refine callX_of hW ?_
    simp only [go_sem, Nat.reduceAdd, Nat.reduceLT, Nat.reduceEqDiff, Nat.reduceBEq, Nat.reduceLeDiff, Nat.reduceSub, Int.reduceToNat, reduceCtorEq, ↓reduceIte, avStr, e, decide_false, bne_self_eq_false, bbeq_tt, bbeq_tf, bbeq_ft, bbeq_ff, beq_self_eq_true, Bool.not_true, Bool.not_false, c0, c1, c2, c3, c4, Int.reduceLT, Int.reduceLE, Nat.reduceMul]
    refine callX_of hrVq ?_
    cases hv : validN q qb
    · simp only [hv, Bool.false_eq_true, if_false, if_true] at hwe
      simp only [go_sem, Nat.reduceAdd, Nat.reduceLT, Nat.reduceEqDiff, Nat.reduceBEq, Nat.reduceLeDiff, Nat.reduceSub, Int.reduceToNat, reduceCtorEq, ↓reduceIte, hv, hwe, avStr, e, decide_false, bne_self_eq_false, bbeq_tt, bbeq_tf, bbeq_ft, bbeq_ff, beq_self_eq_true, Bool.not_true, Bool.not_false, c0, c1, c2, c3, c4, Int.reduceLT, Int.reduceLE, Nat.reduceMul]
      refine callX_of hG ?_
      simp only [go_sem, Nat.reduceAdd, Nat.reduceLT, Nat.reduceEqDiff, Nat.reduceBEq, Nat.reduceLeDiff, Nat.reduceSub, Int.reduceToNat, reduceCtorEq, ↓reduceIte, avStr, e, decide_false, bne_self_eq_false, bbeq_tt, bbeq_tf, bbeq_ft, bbeq_ff, beq_self_eq_true, Bool.not_true, Bool.not_false, c0, c1, c2, c3, c4, Int.reduceLT, Int.reduceLE, Nat.reduceMul]
      refine callX_of hrG ?_
      simp only [go_sem, Nat.reduceAdd, Nat.reduceLT, Nat.reduceEqDiff, Nat.reduceBEq, Nat.reduceLeDiff, Nat.reduceSub, Int.reduceToNat, reduceCtorEq, ↓reduceIte, avStr, e, decide_false, bne_self_eq_false, bbeq_tt, bbeq_tf, bbeq_ft, bbeq_ff, beq_self_eq_true, Bool.not_true, Bool.not_false, c0, c1, c2, c3, c4, Int.reduceLT, Int.reduceLE, Nat.reduceMul]
      refine callX_of hO ?_
      simp only [go_sem, Nat.reduceAdd, Nat.reduceLT, Nat.reduceEqDiff, Nat.reduceBEq, Nat.reduceLeDiff, Nat.reduceSub, Int.reduceToNat, reduceCtorEq, ↓reduceIte, s24, d0, u0, u3, l3, avStr, e, decide_false, bne_self_eq_false, bbeq_tt, bbeq_tf, bbeq_ft, bbeq_ff, beq_self_eq_true, Bool.not_true, Bool.not_false, c0, c1, c2, c3, c4, Int.reduceLT, Int.reduceLE, Nat.reduceMul]
    · simp only [hv, Bool.false_eq_true, if_false, if_true] at hwe
      simp only [go_sem, Nat.reduceAdd, Nat.reduceLT, Nat.reduceEqDiff, Nat.reduceBEq, Nat.reduceLeDiff, Nat.reduceSub, Int.reduceToNat, reduceCtorEq, ↓reduceIte, hv, hwe, avStr, e, decide_false, bne_self_eq_false, bbeq_tt, bbeq_tf, bbeq_ft, bbeq_ff, beq_self_eq_true, Bool.not_true, Bool.not_false, c0, c1, c2, c3, c4, Int.reduceLT, Int.reduceLE, Nat.reduceMul]
      refine callX_of hrW ?_
      simp only [go_sem, Nat.reduceAdd, Nat.reduceLT, Nat.reduceEqDiff, Nat.reduceBEq, Nat.reduceLeDiff, Nat.reduceSub, Int.reduceToNat, reduceCtorEq, ↓reduceIte, hv, hwe, avStr, e, decide_false, bne_self_eq_false, bbeq_tt, bbeq_tf, bbeq_ft, bbeq_ff, beq_self_eq_true, Bool.not_true, Bool.not_false, c0, c1, c2, c3, c4, Int.reduceLT, Int.reduceLE, Nat.reduceMul]
      refine callX_of hG ?_
      simp only [go_sem, Nat.reduceAdd, Nat.reduceLT, Nat.reduceEqDiff, Nat.reduceBEq, Nat.reduceLeDiff, Nat.reduceSub, Int.reduceToNat, reduceCtorEq, ↓reduceIte, avStr, e, decide_false, bne_self_eq_false, bbeq_tt, bbeq_tf, bbeq_ft, bbeq_ff, beq_self_eq_true, Bool.not_true, Bool.not_false, c0, c1, c2, c3, c4, Int.reduceLT, Int.reduceLE, Nat.reduceMul]
      refine callX_of hrG ?_
      simp only [go_sem, Nat.reduceAdd, Nat.reduceLT, Nat.reduceEqDiff, Nat.reduceBEq, Nat.reduceLeDiff, Nat.reduceSub, Int.reduceToNat, reduceCtorEq, ↓reduceIte, avStr, e, decide_false, bne_self_eq_false, bbeq_tt, bbeq_tf, bbeq_ft, bbeq_ff, beq_self_eq_true, Bool.not_true, Bool.not_false, c0, c1, c2, c3, c4, Int.reduceLT, Int.reduceLE, Nat.reduceMul]
      refine callX_of hO ?_
      simp only [go_sem, Nat.reduceAdd, Nat.reduceLT, Nat.reduceEqDiff, Nat.reduceBEq, Nat.reduceLeDiff, Nat.reduceSub, Int.reduceToNat, reduceCtorEq, ↓reduceIte, s24, d0, u0, u3, l3, avStr, e, decide_false, bne_self_eq_false, bbeq_tt, bbeq_tf, bbeq_ft, bbeq_ff, beq_self_eq_true, Bool.not_true, Bool.not_false, c0, c1, c2, c3, c4, Int.reduceLT, Int.reduceLE, Nat.reduceMul])

end Go.Proofs.YtodnphnbnneegaaDoor.VL
