/- addr: numbers, addresses, prefixes out of texts: what they compute. -/
import Derived.Test.YtodnphnbnneegaaDoorAddr3
set_option linter.unusedVariables false
set_option linter.unusedSimpArgs false
set_option maxHeartbeats 4000000
namespace Go.Proofs.YtodnphnbnneegaaDoor.VL
open Go.RowKit Go.Proofs

def itoaB (v : Int) : ByteArray := decB v.toNat

/-- addr.number -/
def numV (s : ByteArray) (most : Int) : Int × Bool := if 3 < s.size then (0, false) else match Lib.atoiAll s.data.toList with
  | .ok v => (v, decide (0 ≤ v) && (decide (v ≤ most) && (itoaB v).toList == s.toList))
  | .range => (Lib.atoiSat s.data.toList, false)
  | _ => (0, false)

theorem C_number (s : ByteArray) (most : Int) (hm : most < 9223372036854775807) : AC Tryd.prog f_addr_number [avStr s, .lit (.int .i64 most)] (.tup [.lit (.int .i64 (numV s most).1), .lit (.bool (numV s most).2)]) := by
  refine ac_addr_number ?_ (Nat.le_add_left 2 _)
  simp only [go_sem, Nat.reduceAdd, Nat.reduceLT, Nat.reduceEqDiff, Nat.reduceBEq, Nat.reduceLeDiff, Nat.reduceSub, Int.reduceToNat, reduceCtorEq, ↓reduceIte, c_addr_number, avStr]
  unfold numV
  by_cases h3 : 3 < s.size
  · have e : ((3 : Int) < (s.size : Int)) = True := eq_true (by omega)
    simp only [go_sem, Nat.reduceAdd, Nat.reduceLT, Nat.reduceEqDiff, Nat.reduceBEq, Nat.reduceLeDiff, Nat.reduceSub, Int.reduceToNat, reduceCtorEq, ↓reduceIte, if_pos h3, e, decide_true]
  · have e : ((3 : Int) < (s.size : Int)) = False := eq_false (by omega)
    have hA := C_Atoi s (by omega)
    simp only [go_sem, Nat.reduceAdd, Nat.reduceLT, Nat.reduceEqDiff, Nat.reduceBEq, Nat.reduceLeDiff, Nat.reduceSub, Int.reduceToNat, reduceCtorEq, ↓reduceIte, if_neg h3, e, decide_false]
    unfold atoiR at hA
    cases ha : Lib.atoiAll s.data.toList
    · rename_i v
      simp only [ha] at hA
      refine callX_of hA ?_
      cases h0 : decide (0 ≤ v)
      · simp only [go_sem, Nat.reduceAdd, Nat.reduceLT, Nat.reduceEqDiff, Nat.reduceBEq, Nat.reduceLeDiff, Nat.reduceSub, Int.reduceToNat, reduceCtorEq, ↓reduceIte, h0, Bool.false_and]
      · cases h1 : decide (v ≤ most)
        · simp only [go_sem, Nat.reduceAdd, Nat.reduceLT, Nat.reduceEqDiff, Nat.reduceBEq, Nat.reduceLeDiff, Nat.reduceSub, Int.reduceToNat, reduceCtorEq, ↓reduceIte, h0, h1, Bool.false_and, Bool.and_false]
        · have hv : 0 ≤ v := by simpa using h0
          have hvm : v ≤ most := by simpa using h1
          have hI := C_Itoa v.toNat (by omega)
          rw [Int.toNat_of_nonneg hv] at hI
          simp only [go_sem, Nat.reduceAdd, Nat.reduceLT, Nat.reduceEqDiff, Nat.reduceBEq, Nat.reduceLeDiff, Nat.reduceSub, Int.reduceToNat, reduceCtorEq, ↓reduceIte, h0, h1]
          refine callX_of hI ?_
          simp only [go_sem, Nat.reduceAdd, Nat.reduceLT, Nat.reduceEqDiff, Nat.reduceBEq, Nat.reduceLeDiff, Nat.reduceSub, Int.reduceToNat, reduceCtorEq, ↓reduceIte, avStr, h0, h1, Bool.true_and, itoaB]
    · simp only [ha] at hA
      refine callX_of hA ?_
      simp only [go_sem, Nat.reduceAdd, Nat.reduceLT, Nat.reduceEqDiff, Nat.reduceBEq, Nat.reduceLeDiff, Nat.reduceSub, Int.reduceToNat, reduceCtorEq, ↓reduceIte]
    · simp only [ha] at hA
      refine callX_of hA ?_
      simp only [go_sem, Nat.reduceAdd, Nat.reduceLT, Nat.reduceEqDiff, Nat.reduceBEq, Nat.reduceLeDiff, Nat.reduceSub, Int.reduceToNat, reduceCtorEq, ↓reduceIte]

end Go.Proofs.YtodnphnbnneegaaDoor.VL
