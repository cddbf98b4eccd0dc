/- addr: contracts, on. -/
import Derived.Test.YtodnphnbnneegaaDoorAddr
set_option linter.unusedVariables false
set_option linter.unusedSimpArgs false
set_option maxHeartbeats 4000000
namespace Go.Proofs.YtodnphnbnneegaaDoor.VL
open Go.RowKit Go.Proofs

theorem dec_len_tab : ((List.range 256).all fun n => decide ((Lib.decDigits n).length ≤ 3)) = true := by decide +kernel
theorem dec_len (n : Nat) (h : n < 256) : (Lib.decDigits n).length ≤ 3 := by
  have := dec_len_tab
  simp only [List.all_eq_true, List.mem_range, decide_eq_true_eq] at this
  exact this n h

theorem text_len (b : Nat → Nat) (hb : ∀ i, i < 4 → b i < 256) : (Lib.join ([byT b 0, byT b 1, byT b 2, byT b 3].map (·.data.toList)) [46]).length ≤ 15 := by
  have h0 := dec_len (b 0) (hb 0 (by decide))
  have h1 := dec_len (b 1) (hb 1 (by decide))
  have h2 := dec_len (b 2) (hb 2 (by decide))
  have h3 := dec_len (b 3) (hb 3 (by decide))
  simp [Lib.join, byT, decB, List.intercalate, List.intersperse]
  omega

theorem C_Text' (a : Nat) (ha : a < 4294967296) : AC Tryd.prog f_addr_Text [avU a] (avStr (textB (bytN a))) :=
  C_Text a ha (Nat.le_trans (text_len _ fun i _ => bytN_lt a i) (by decide))

theorem C_first1 : AC Tryd.prog f_rivuletlaw1_first [] (.lit (.bool true)) := by
  refine ac_rivuletlaw1_first ?_ (Nat.zero_le 3)
  have h := C_Text' 16777218 (by decide)
  have e : textB (bytN 16777218) = ⟨#[49, 46, 48, 46, 48, 46, 50]⟩ := by decide +kernel
  rw [e] at h
  simp only [go_sem, Nat.reduceAdd, Nat.reduceLT, Nat.reduceEqDiff, Nat.reduceBEq, Nat.reduceLeDiff, Nat.reduceSub, Int.reduceToNat, reduceCtorEq, ↓reduceIte, c_rivuletlaw1_first]
  refine callX_of h ?_
  simp only [go_sem, Nat.reduceAdd, Nat.reduceLT, Nat.reduceEqDiff, Nat.reduceBEq, Nat.reduceLeDiff, Nat.reduceSub, Int.reduceToNat, reduceCtorEq, ↓reduceIte, c_rivuletlaw1_first, avStr]

theorem C_Num (n : Nat) (hn : n < 9223372036854775808) : AC Tryd.prog f_rivuletworld_Num [.lit (.int .i64 (n : Nat))] (avStr (decB n)) := by
  refine ac_rivuletworld_Num ?_ (Nat.le_add_left 1 _)
  simp only [go_sem, Nat.reduceAdd, Nat.reduceLT, Nat.reduceEqDiff, Nat.reduceBEq, Nat.reduceLeDiff, Nat.reduceSub, Int.reduceToNat, reduceCtorEq, ↓reduceIte, c_rivuletworld_Num]
  refine callX_of (C_Itoa n hn) ?_
  simp only [go_sem, Nat.reduceAdd, Nat.reduceLT, Nat.reduceEqDiff, Nat.reduceBEq, Nat.reduceLeDiff, Nat.reduceSub, Int.reduceToNat, reduceCtorEq, ↓reduceIte, avStr]

end Go.Proofs.YtodnphnbnneegaaDoor.VL
