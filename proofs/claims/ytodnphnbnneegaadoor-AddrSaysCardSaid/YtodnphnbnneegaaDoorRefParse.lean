/- rivuletref1.Parse: the walk. -/
import Derived.Test.YtodnphnbnneegaaDoorRefNum
import Derived.Test.YtodnphnbnneegaaDoorSpl
set_option linter.unusedVariables false
set_option linter.unusedSimpArgs false
set_option maxHeartbeats 4000000
namespace Go.Proofs.YtodnphnbnneegaaDoor.VL
open Go.RowKit Go.Proofs

/-- rivuletref1.Parse: its loop: what stands behind the last point, what is ahead, the address so far, its parts. -/
def rGo : List UInt8 → List UInt8 → Nat → Nat → Nat × Bool
  | cur, [], a, k => if rNum cur 3 < 0 then (0, false) else if 255 < rNum cur 3 then (0, false) else if k = 4 then (0, false) else if k + 1 = 4 then (a * 256 + (rNum cur 3).toNat, true) else (0, false)
  | cur, b :: r, a, k => if b = 46 then (if rNum cur 3 < 0 then (0, false) else if 255 < rNum cur 3 then (0, false) else if k = 4 then (0, false) else rGo [] r (a * 256 + (rNum cur 3).toNat) (k + 1)) else rGo (cur ++ [b]) r a k
def rParse (l : List UInt8) : Nat × Bool := rGo [] l 0 0

theorem ext_list (s : ByteArray) (i j : Nat) (hij : i ≤ j) : (s.extract i j).data.toList = (s.data.toList.drop i).take (j - i) := by
  rw [Lib.extract_data]

theorem C_rParse (s : ByteArray) (hs : s.size ≤ 4611686018427387904) : AC Tryd.prog f_rivuletref1_Parse [avStr s] (.tup [avU (rParse s.data.toList).1, .lit (.bool (rParse s.data.toList).2)]) := by
  refine ac_rivuletref1_Parse ?_ (Nat.le_add_left 1 _)
  have hsz : s.size = s.data.toList.length := Lib.size_eq s
  simp only [go_sem, Nat.reduceAdd, Nat.reduceLT, Nat.reduceEqDiff, Nat.reduceBEq, Nat.reduceLeDiff, Nat.reduceSub, Int.reduceToNat, reduceCtorEq, ↓reduceIte, c_rivuletref1_Parse, avStr]
  generalize hL : s.data.toList = l at hsz
  have hlen : l.length ≤ 4611686018427387904 := by omega
  refine aw_loop (fun m E => ∃ (i f a k : Nat), i + m = l.length + 1 ∧ a < 256 ^ k ∧ k ≤ 4 ∧ f ≤ i ∧ (i ≤ l.length → rParse l = rGo ((l.drop f).take (i - f)) (l.drop i) a k) ∧
    (l.length < i → rParse l = if k = 4 then (a, true) else (0, false)) ∧ E = mkE [(0, .lit (.string s)), (4, avU a), (5, .lit (.int .i64 (k : Nat))), (6, .lit (.int .i64 (f : Nat))), (7, .lit (.int .i64 (i : Nat)))] []) (l.length + 1) ?_ ?_
  · exact ⟨0, 0, 0, 0, by omega, by decide, by omega, by omega, fun _ => by simp [rParse], fun h => by omega, by simp only [go_sem, Nat.reduceAdd, Nat.reduceLT, Nat.reduceEqDiff, Nat.reduceBEq, Nat.reduceLeDiff, Nat.reduceSub, Int.reduceToNat, reduceCtorEq, ↓reduceIte]; rfl⟩
  · rintro m _ ⟨i, f, a, k, hi, ha, hk, hf, hr, hr2, rfl⟩
    have w1 := wrap_succ i (by omega)
    have w2 := wrap_succ k (by omega)
    by_cases hil : i ≤ l.length
    · have f1 : ((i : Int) ≤ (s.size : Int)) = True := eq_true (by omega)
      have hr := hr hil
      have s1 : (0 ≤ (f : Int)) = True := eq_true (by omega)
      have s2 : ((f : Int) ≤ (i : Int)) = True := eq_true (by omega)
      have hN := C_rNumber (s.extract f i) 3 (by decide)
      rw [ext_list s f i hf, hL] at hN
      have hsh := avBin_shl 23 .u32 .u64 (a : Int) 8 (by decide) (by decide)
      have h256 : ∀ j, j ≤ 3 → 256 ^ j ≤ 256 ^ 3 := fun j hj => Nat.pow_le_pow_right (by decide) hj
      by_cases hlt : i < l.length
      · have f2 : ((i : Int) < (s.size : Int)) = True := eq_true (by omega)
        obtain ⟨b, hb⟩ : ∃ b, l[i]? = some b := ⟨l[i], List.getElem?_eq_getElem hlt⟩
        have ib := avIxs_l s .i64 i b (by rw [hL]; exact hb)
        have hdrop : l.drop i = b :: l.drop (i + 1) := by
          rw [List.drop_eq_getElem_cons hlt]
          congr 1
          exact (List.getElem?_eq_some_iff.1 hb).2
        have hne : (((b.toNat : Nat) : Int) != 46) = !decide (b = 46) := by
          rw [Bool.eq_iff_iff]
          simp only [bne_iff_ne, ne_eq, Bool.not_eq_true', decide_eq_false_iff_not]
          refine not_congr ⟨fun h => UInt8.toNat_inj.1 (by show b.toNat = 46; omega), ?_⟩
          rintro rfl
          rfl
        rw [hdrop, rGo] at hr
        by_cases hb46 : b = 46
        · rw [if_pos hb46] at hr
          have e46 : decide (b = 46) = true := by simpa using hb46
          generalize hc : rNum ((l.drop f).take (i - f)) 3 = n at hN hr
          simp only [go_sem, Nat.reduceAdd, Nat.reduceLT, Nat.reduceEqDiff, Nat.reduceBEq, Nat.reduceLeDiff, Nat.reduceSub, Int.reduceToNat, reduceCtorEq, ↓reduceIte, f1, f2, ib, hne, e46, Bool.not_true, s1, s2, and_self, Int.toNat_natCast, decide_true, decide_false]
          refine callX_of hN ?_
          by_cases n0 : n < 0
          · rw [if_pos n0] at hr
            simp only [go_sem, Nat.reduceAdd, Nat.reduceLT, Nat.reduceEqDiff, Nat.reduceBEq, Nat.reduceLeDiff, Nat.reduceSub, Int.reduceToNat, reduceCtorEq, ↓reduceIte, eq_true n0, decide_true, hr, avU, c0]
          rw [if_neg n0] at hr
          by_cases n1 : 255 < n
          · rw [if_pos n1] at hr
            simp only [go_sem, Nat.reduceAdd, Nat.reduceLT, Nat.reduceEqDiff, Nat.reduceBEq, Nat.reduceLeDiff, Nat.reduceSub, Int.reduceToNat, reduceCtorEq, ↓reduceIte, eq_false n0, eq_true n1, decide_true, decide_false, hr, avU, c0]
          rw [if_neg n1] at hr
          by_cases k4 : k = 4
          · rw [if_pos k4] at hr
            have e4 : ((k : Int) == 4) = true := by rw [k4]; rfl
            simp only [go_sem, Nat.reduceAdd, Nat.reduceLT, Nat.reduceEqDiff, Nat.reduceBEq, Nat.reduceLeDiff, Nat.reduceSub, Int.reduceToNat, reduceCtorEq, ↓reduceIte, eq_false n0, eq_false n1, e4, decide_true, decide_false, hr, avU, c0]
          rw [if_neg k4] at hr
          have e4 : ((k : Int) == 4) = false := by simp only [beq_eq_false_iff_ne, ne_eq]; omega
          obtain ⟨nn, rfl⟩ : ∃ nn : Nat, n = (nn : Int) := ⟨n.toNat, by omega⟩
          have ha3 : a < 16777216 := Nat.lt_of_lt_of_le ha (h256 k (by omega))
          have hj := or_join a nn ha3 (by omega)
          have hk1 : a * 256 + nn < 256 ^ (k + 1) := by
            rw [Nat.pow_succ]
            omega
          simp only [go_sem, Nat.reduceAdd, Nat.reduceLT, Nat.reduceEqDiff, Nat.reduceBEq, Nat.reduceLeDiff, Nat.reduceSub, Int.reduceToNat, reduceCtorEq, ↓reduceIte, avU, eq_false n0, eq_false n1, e4, decide_false, hsh, hj, w1, w2]
          refine ⟨m - 1, by omega, i + 1, i + 1, a * 256 + nn, k + 1, by omega, hk1, by omega, by omega, fun _ => ?_, fun h => by omega, rfl⟩
          rw [hr, Nat.sub_self, List.take_zero, Int.toNat_natCast]
        · rw [if_neg hb46] at hr
          have e46 : decide (b = 46) = false := by simpa using hb46
          simp only [go_sem, Nat.reduceAdd, Nat.reduceLT, Nat.reduceEqDiff, Nat.reduceBEq, Nat.reduceLeDiff, Nat.reduceSub, Int.reduceToNat, reduceCtorEq, ↓reduceIte, f1, f2, ib, hne, e46, Bool.not_false, decide_true, w1]
          refine ⟨m - 1, by omega, i + 1, f, a, k, by omega, ha, hk, by omega, fun _ => ?_, fun h => by omega, rfl⟩
          rw [hr]
          congr 1
          rw [show i + 1 - f = (i - f) + 1 by omega, List.take_add_one]
          congr 1
          rw [List.getElem?_drop, show f + (i - f) = i by omega, hb]
          rfl
      · have f2 : ((i : Int) < (s.size : Int)) = False := eq_false (by omega)
        have hd : l.drop i = [] := List.drop_eq_nil_of_le (by omega)
        rw [hd, rGo] at hr
        generalize hc : rNum ((l.drop f).take (i - f)) 3 = n at hN hr
        simp only [go_sem, Nat.reduceAdd, Nat.reduceLT, Nat.reduceEqDiff, Nat.reduceBEq, Nat.reduceLeDiff, Nat.reduceSub, Int.reduceToNat, reduceCtorEq, ↓reduceIte, f1, f2, s1, s2, and_self, Int.toNat_natCast, decide_true, decide_false]
        refine callX_of hN ?_
        by_cases n0 : n < 0
        · rw [if_pos n0] at hr
          simp only [go_sem, Nat.reduceAdd, Nat.reduceLT, Nat.reduceEqDiff, Nat.reduceBEq, Nat.reduceLeDiff, Nat.reduceSub, Int.reduceToNat, reduceCtorEq, ↓reduceIte, eq_true n0, decide_true, hr, avU, c0]
        rw [if_neg n0] at hr
        by_cases n1 : 255 < n
        · rw [if_pos n1] at hr
          simp only [go_sem, Nat.reduceAdd, Nat.reduceLT, Nat.reduceEqDiff, Nat.reduceBEq, Nat.reduceLeDiff, Nat.reduceSub, Int.reduceToNat, reduceCtorEq, ↓reduceIte, eq_false n0, eq_true n1, decide_true, decide_false, hr, avU, c0]
        rw [if_neg n1] at hr
        by_cases k4 : k = 4
        · rw [if_pos k4] at hr
          have e4 : ((k : Int) == 4) = true := by rw [k4]; rfl
          simp only [go_sem, Nat.reduceAdd, Nat.reduceLT, Nat.reduceEqDiff, Nat.reduceBEq, Nat.reduceLeDiff, Nat.reduceSub, Int.reduceToNat, reduceCtorEq, ↓reduceIte, eq_false n0, eq_false n1, e4, decide_true, decide_false, hr, avU, c0]
        rw [if_neg k4] at hr
        have e4 : ((k : Int) == 4) = false := by simp only [beq_eq_false_iff_ne, ne_eq]; omega
        obtain ⟨nn, rfl⟩ : ∃ nn : Nat, n = (nn : Int) := ⟨n.toNat, by omega⟩
        have ha3 : a < 16777216 := Nat.lt_of_lt_of_le ha (h256 k (by omega))
        have hj := or_join a nn ha3 (by omega)
        have hk1 : a * 256 + nn < 256 ^ (k + 1) := by
          rw [Nat.pow_succ]
          omega
        simp only [go_sem, Nat.reduceAdd, Nat.reduceLT, Nat.reduceEqDiff, Nat.reduceBEq, Nat.reduceLeDiff, Nat.reduceSub, Int.reduceToNat, reduceCtorEq, ↓reduceIte, avU, eq_false n0, eq_false n1, e4, decide_false, hsh, hj, w1, w2]
        refine ⟨m - 1, by omega, i + 1, i + 1, a * 256 + nn, k + 1, by omega, hk1, by omega, by omega, fun h => by omega, fun _ => ?_, rfl⟩
        rw [hr, Int.toNat_natCast]
    · have f1 : ((i : Int) ≤ (s.size : Int)) = False := eq_false (by omega)
      have hr := hr2 (by omega)
      by_cases k4 : k = 4
      · have e4 : ((k : Int) != 4) = false := by rw [k4]; rfl
        rw [if_pos k4] at hr
        simp only [go_sem, Nat.reduceAdd, Nat.reduceLT, Nat.reduceEqDiff, Nat.reduceBEq, Nat.reduceLeDiff, Nat.reduceSub, Int.reduceToNat, reduceCtorEq, ↓reduceIte, f1, decide_false, e4, hr, avU]
      · have e4 : ((k : Int) != 4) = true := by simp only [bne_iff_ne, ne_eq]; omega
        rw [if_neg k4] at hr
        simp only [go_sem, Nat.reduceAdd, Nat.reduceLT, Nat.reduceEqDiff, Nat.reduceBEq, Nat.reduceLeDiff, Nat.reduceSub, Int.reduceToNat, reduceCtorEq, ↓reduceIte, f1, decide_false, e4, hr, avU, c0]

end Go.Proofs.YtodnphnbnneegaaDoor.VL
