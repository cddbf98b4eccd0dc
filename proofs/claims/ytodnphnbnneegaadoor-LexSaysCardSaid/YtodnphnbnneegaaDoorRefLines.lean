/- rivuletref5.Lines: the walk. -/
import Derived.Test.YtodnphnbnneegaaDoorFieldsLaw2
import Derived.Test.YtodnphnbnneegaaDoorLex3
import Derived.Test.YtodnphnbnneegaaDoorAddr6
set_option linter.unusedVariables false
set_option linter.unusedSimpArgs false
set_option maxHeartbeats 8000000
namespace Go.Proofs.YtodnphnbnneegaaDoor.VL
open Go.RowKit Go.Proofs

def avW (w : List UInt8) : AV := avStr (toB w)
def wAV (ws : List (List UInt8)) : AV := match ws with
  | [] => .sl .nil 0 []
  | w :: r => .sl (.own [62]) 1 ((w :: r).map avW)
def lnW (q : Nat × List (List UInt8)) : AV := .agg [.lit (.int .i64 (q.1 : Nat)), .sl .none 1 (q.2.map avW)]
def oAV (l : WL) : AV := match l with
  | [] => .sl .nil 0 []
  | p :: r => .sl (.own [73]) 2 ((p :: r).map lnW)

theorem ew_nil (w : List UInt8) : ((toB w).toList == (⟨#[]⟩ : ByteArray).toList) = decide (w = []) := by
  rw [str_eq, decide_eq_decide]
  constructor
  · intro h
    have := congrArg (fun b : ByteArray => b.data.toList) h
    simpa [toB] using this
  · rintro rfl
    rfl
theorem cat_byte (s : ByteArray) (w : List UInt8) (i : Nat) (c : UInt8) (h : s.data.toList[i]? = some c) : catB (toB w) (s.extract i (i + 1)) = toB (w ++ [c]) := by
  rw [← toB_data (catB _ _)]
  congr 1
  have hi : i < s.data.toList.length := (List.getElem?_eq_some_iff.1 h).1
  rw [show (catB (toB w) (s.extract i (i + 1))).data.toList = (toB w).data.toList ++ (s.extract i (i + 1)).data.toList by simp [catB, ByteArray.data_append], data_toB, ext_drop, Nat.add_sub_cancel_left, List.drop_eq_getElem_cons hi]
  simp only [List.take_succ_cons, List.take_zero]
  congr 2
  exact (List.getElem?_eq_some_iff.1 h).2
theorem toB_size (w : List UInt8) : (toB w).size = w.length := by rw [Lib.size_eq, data_toB]

theorem byte_ne (c : UInt8) (k : Nat) (hk : k < 256) : (((c.toNat : Nat) : Int) != (k : Int)) = !decide (c = UInt8.ofNat k) := by
  rw [Bool.eq_iff_iff]
  simp only [bne_iff_ne, ne_eq, Bool.not_eq_true', decide_eq_false_iff_not]
  refine not_congr ⟨fun h => UInt8.toNat_inj.1 (by simp; omega), ?_⟩
  rintro rfl
  simp
  omega
theorem byte_eq (c : UInt8) (k : Nat) (hk : k < 256) : (((c.toNat : Nat) : Int) == (k : Int)) = decide (c = UInt8.ofNat k) := by
  have := byte_ne c k hk
  rw [bne] at this
  cases h : (((c.toNat : Nat) : Int) == (k : Int)) <;> rw [h] at this <;> simp at this <;> simp [this]

theorem C_rLines_many (s : ByteArray) (h : 16384 < s.size) : AC Tryd.prog f_rivuletref5_Lines [avStr s] (.tup [.sl .nil 0 [], .lit (.int .i64 104)]) := by
  refine ac_rivuletref5_Lines ?_ (Nat.le_add_left 1 _)
  have e : ((16384 : Int) < (s.size : Int)) = True := eq_true (by omega)
  simp only [go_sem, Nat.reduceAdd, Nat.reduceLT, Nat.reduceEqDiff, Nat.reduceBEq, Nat.reduceLeDiff, Nat.reduceSub, Int.reduceToNat, reduceCtorEq, ↓reduceIte, c_rivuletref5_Lines, avStr, e, decide_true]

/-- A word is closed. -/
def pFlush : ACode := (.seq (.region false [ ⟨some 57, .mov (.tmp 7), none⟩, ⟨some 58, .bin .neq 9 (.tmp 57) (.const (.string ⟨#[]⟩)), none⟩] [49, 57]) (.cond (.tmp 58) (.seq (.region false [ ⟨some 59, .mov (.tmp 6), none⟩, ⟨some 60, .mov (.tmp 7), none⟩, ⟨some 61, .bslice 1 1 [.tmp 60], none⟩, ⟨some 62, .app 1 16 [] (.tmp 59) (.tmp 61), none⟩, ⟨some 6, .mov (.tmp 62), none⟩] [7, 58, 59, 60, 61, 62]) (.region false [ ⟨some 7, .mov (.const (.string ⟨#[]⟩)), none⟩] [])) .skip))
/-- A line is closed. -/
def pLine : ACode := (.seq (.region false [ ⟨some 63, .mov (.tmp 10), none⟩, ⟨some 64, .bin .eql 5 (.tmp 63) (.const (.int .u8 10)), none⟩] [10, 58, 63]) (.cond (.tmp 64) (.seq (.seq (.region false [ ⟨some 65, .mov (.tmp 6), none⟩, ⟨some 66, .lenl (.tmp 65), none⟩, ⟨some 67, .bin .gtr 3 (.tmp 66) (.const (.int .i64 0)), none⟩] [8, 64, 65, 66]) (.cond (.tmp 67) (.region false [ ⟨some 68, .mov (.tmp 4), none⟩, ⟨some 69, .mov (.tmp 5), none⟩, ⟨some 70, .mov (.tmp 6), none⟩, ⟨some 71, .build [.lit (.int .i64 0), .sl .nil 0 []] [(0, 1, .tmp 69), (1, 1, .tmp 70)], none⟩, ⟨some 72, .bslice 1 2 [.tmp 71], none⟩, ⟨some 73, .app 2 32 [] (.tmp 68) (.tmp 72), none⟩, ⟨some 4, .mov (.tmp 73), none⟩] [6, 67, 68, 69, 70, 71, 72, 73]) .skip)) (.seq (.region false [ ⟨some 6, .mov (.const (.slice none 0 0)), none⟩] [67]) (.seq (.region false [ ⟨some 8, .mov (.const (.bool false)), none⟩] []) (.region false [ ⟨some 74, .mov (.tmp 5), none⟩, ⟨some 75, .bin .add 3 (.tmp 74) (.const (.int .i64 1)), none⟩, ⟨some 5, .mov (.tmp 75), none⟩] [74, 75])))) .skip))
theorem c_eq : c_rivuletref5_Lines = (.seq (.region false [ ⟨some 2, .mov (.const (.slice none 0 0)), none⟩, ⟨some 3, .mov (.const (.int .i64 0)), none⟩] [2, 3]) (.seq (.seq (.region false [ ⟨some 11, .mov (.tmp 0), none⟩, ⟨some 12, .lens (.tmp 11), none⟩, ⟨some 13, .bin .gtr 3 (.tmp 12) (.const (.int .i64 16384)), none⟩] [11, 12]) (.cond (.tmp 13) (.seq (.region false [ ⟨some 2, .mov (.const (.slice none 0 0)), none⟩, ⟨some 3, .mov (.const (.int .i64 104)), none⟩] [0, 13]) .ret) .skip)) (.seq (.region false [ ⟨some 4, .mov (.const (.slice none 0 0)), none⟩] [13]) (.seq (.region false [ ⟨some 5, .mov (.const (.int .i64 1)), none⟩] []) (.seq (.region false [ ⟨some 6, .mov (.const (.slice none 0 0)), none⟩] []) (.seq (.region false [ ⟨some 7, .mov (.const (.string ⟨#[]⟩)), none⟩] []) (.seq (.region false [ ⟨some 8, .mov (.const (.bool false)), none⟩] []) (.seq (.seq (.region false [ ⟨some 9, .mov (.const (.int .i64 0)), none⟩] []) (.block 0 (.loop (.seq (.seq (.region false [ ⟨some 14, .mov (.tmp 9), none⟩, ⟨some 15, .mov (.tmp 0), none⟩, ⟨some 16, .lens (.tmp 15), none⟩, ⟨some 17, .bin .leq 3 (.tmp 14) (.tmp 16), none⟩] [14, 15, 16]) (.cond (.tmp 17) .skip (.exit 0))) (.seq (.block 1 (.seq (.region false [ ⟨some 10, .mov (.const (.int .u8 10)), none⟩] [17]) (.seq (.seq (.region false [ ⟨some 20, .mov (.tmp 9), none⟩, ⟨some 21, .mov (.tmp 0), none⟩, ⟨some 22, .lens (.tmp 21), none⟩, ⟨some 23, .bin .lss 3 (.tmp 20) (.tmp 22), none⟩] [20, 21, 22]) (.cond (.tmp 23) (.region false [ ⟨some 24, .mov (.tmp 0), none⟩, ⟨some 25, .mov (.tmp 9), none⟩, ⟨some 26, .idxs (.tmp 24) (.tmp 25), none⟩, ⟨some 10, .mov (.tmp 26), none⟩] [23, 24, 25, 26]) .skip)) (.seq (.region false [ ⟨some 27, .mov (.tmp 8), none⟩, ⟨some 28, .mov (.tmp 27), none⟩, ⟨some 29, .mov (.tmp 10), (some (28, false))⟩, ⟨some 30, .bin .eql 5 (.tmp 29) (.const (.int .u8 35)), (some (28, false))⟩, ⟨some 31, .pick (.tmp 28) (.const (.bool true)) (.tmp 30), none⟩, ⟨some 8, .mov (.tmp 31), none⟩] [23, 27, 28, 29, 30, 31]) (.seq (.seq (.region false [ ⟨some 32, .mov (.tmp 10), none⟩, ⟨some 33, .bin .neq 5 (.tmp 32) (.const (.int .u8 10)), none⟩, ⟨some 34, .mov (.tmp 33), none⟩, ⟨some 35, .mov (.tmp 10), (some (34, true))⟩, ⟨some 36, .bin .neq 5 (.tmp 35) (.const (.int .u8 32)), (some (34, true))⟩, ⟨some 37, .pick (.tmp 34) (.tmp 36) (.const (.bool false)), none⟩, ⟨some 38, .mov (.tmp 37), none⟩, ⟨some 39, .mov (.tmp 10), (some (38, true))⟩, ⟨some 40, .bin .neq 5 (.tmp 39) (.const (.int .u8 9)), (some (38, true))⟩, ⟨some 41, .pick (.tmp 38) (.tmp 40) (.const (.bool false)), none⟩, ⟨some 42, .mov (.tmp 41), none⟩, ⟨some 43, .mov (.tmp 10), (some (42, true))⟩, ⟨some 44, .bin .neq 5 (.tmp 43) (.const (.int .u8 13)), (some (42, true))⟩, ⟨some 45, .pick (.tmp 42) (.tmp 44) (.const (.bool false)), none⟩, ⟨some 46, .mov (.tmp 45), none⟩, ⟨some 47, .mov (.tmp 8), (some (46, true))⟩, ⟨some 48, .un .not (.tmp 47), (some (46, true))⟩, ⟨some 49, .pick (.tmp 46) (.tmp 48) (.const (.bool false)), none⟩] [32, 33, 34, 35, 36, 37, 38, 39, 40, 41, 42, 43, 44, 45, 46, 47, 48]) (.cond (.tmp 49) (.seq (.region false [ ⟨some 50, .mov (.tmp 7), none⟩, ⟨some 51, .mov (.tmp 0), none⟩, ⟨some 52, .mov (.tmp 9), none⟩, ⟨some 53, .mov (.tmp 9), none⟩, ⟨some 54, .bin .add 3 (.tmp 53) (.const (.int .i64 1)), none⟩, ⟨some 55, .slcs (.tmp 51) (some (.tmp 52)) (some (.tmp 54)), none⟩, ⟨some 56, .bin .add 9 (.tmp 50) (.tmp 55), none⟩, ⟨some 7, .mov (.tmp 56), none⟩] [10, 49, 50, 51, 52, 53, 54, 55, 56]) (.exit 1)) .skip)) (.seq pFlush pLine))))) [64]) (.region false [ ⟨some 18, .mov (.tmp 9), none⟩, ⟨some 19, .bin .add 3 (.tmp 18) (.const (.int .i64 1)), none⟩, ⟨some 9, .mov (.tmp 19), none⟩] [18, 19]))) [] []) [0, 5, 6, 7, 8, 9, 17])) (.seq (.region false [ ⟨some 76, .mov (.tmp 4), none⟩, ⟨some 2, .mov (.tmp 76), none⟩, ⟨some 3, .mov (.const (.int .i64 0)), none⟩] [4, 76]) .ret))))))))) := rfl

theorem P_flush (s : ByteArray) (out : WL) (no i : Nat) (ws : List (List UInt8)) (w : List UInt8) (note : Bool) (c : Int) (Q : AExit → Env → Prop) (hwl : ws.length ≤ 20000)
    (hQ : ∀ r : List (Nat × AV), r = [] ∨ r = [(58, .lit (.bool false))] → Q .normal (mkE ([(0, .lit (.string s)), (4, oAV out), (5, .lit (.int .i64 (no : Nat))), (6, wAV (pushW ws w)), (7, .lit (.string ⟨#[]⟩)), (8, .lit (.bool note)), (9, .lit (.int .i64 (i : Nat))), (10, .lit (.int .u8 c))] ++ r) [])) :
    aw Tryd.prog pFlush (mkE [(0, .lit (.string s)), (4, oAV out), (5, .lit (.int .i64 (no : Nat))), (6, wAV ws), (7, .lit (.string (toB w))), (8, .lit (.bool note)), (9, .lit (.int .i64 (i : Nat))), (10, .lit (.int .u8 c)), (49, .lit (.bool false))] []) Q := by
  have hQ1 := hQ [] (.inl rfl)
  have hQ2 := hQ _ (.inr rfl)
  by_cases hw : w = []
  · subst hw
    have hwd : decide (([] : List UInt8) = []) = true := rfl
    simp only [go_sem, Nat.reduceAdd, Nat.reduceLT, Nat.reduceEqDiff, Nat.reduceBEq, Nat.reduceLeDiff, Nat.reduceSub, Int.reduceToNat, reduceCtorEq, ↓reduceIte, pFlush, ew_nil, hwd, Bool.not_true]
    exact hQ2
  · have hwd : decide (w = []) = false := by simpa using hw
    rw [show pushW ws w = ws ++ [w] from if_neg hw] at hQ1
    cases ws with
    | nil =>
      simp only [go_sem, Nat.reduceAdd, Nat.reduceLT, Nat.reduceEqDiff, Nat.reduceBEq, Nat.reduceLeDiff, Nat.reduceSub, Int.reduceToNat, reduceCtorEq, ↓reduceIte, pFlush, ew_nil, hwd, Bool.not_false, wAV]
      rw [avApp_nil _ _ _ _ _ _ _ (by simp) (by decide)]
      simp only [go_sem, Nat.reduceAdd, Nat.reduceLT, Nat.reduceEqDiff, Nat.reduceBEq, Nat.reduceLeDiff, Nat.reduceSub, Int.reduceToNat, reduceCtorEq, ↓reduceIte]
      exact hQ1
    | cons u us =>
      simp only [go_sem, Nat.reduceAdd, Nat.reduceLT, Nat.reduceEqDiff, Nat.reduceBEq, Nat.reduceLeDiff, Nat.reduceSub, Int.reduceToNat, reduceCtorEq, ↓reduceIte, pFlush, ew_nil, hwd, Bool.not_false, wAV]
      rw [avApp_own _ _ _ _ _ _ _ (by simp at hwl ⊢; omega) (by decide) rfl]
      have e : wAV (u :: us ++ [w]) = .sl (.own [62]) 1 (avW u :: (us.map avW ++ [.lit (.string (toB w))])) := by simp [wAV, avW, avStr]
      rw [e] at hQ1
      cases out
      · simp only [go_sem, Nat.reduceAdd, Nat.reduceLT, Nat.reduceEqDiff, Nat.reduceBEq, Nat.reduceLeDiff, Nat.reduceSub, Int.reduceToNat, reduceCtorEq, ↓reduceIte, oAV]
        exact hQ1
      · simp only [go_sem, Nat.reduceAdd, Nat.reduceLT, Nat.reduceEqDiff, Nat.reduceBEq, Nat.reduceLeDiff, Nat.reduceSub, Int.reduceToNat, reduceCtorEq, ↓reduceIte, oAV]
        exact hQ1

theorem P_line (s : ByteArray) (out : WL) (no i : Nat) (ws : List (List UInt8)) (note : Bool) (r : List (Nat × AV)) (hr : r = [] ∨ r = [(58, .lit (.bool false))]) (Q : AExit → Env → Prop) (hol : out.length ≤ 20000) (hno : no < 100000)
    (hQ : Q .normal (mkE [(0, .lit (.string s)), (4, oAV (out ++ outL no ws)), (5, .lit (.int .i64 ((no + 1 : Nat) : Int))), (6, .sl .nil 0 []), (7, .lit (.string ⟨#[]⟩)), (8, .lit (.bool false)), (9, .lit (.int .i64 (i : Nat)))] [])) :
    aw Tryd.prog pLine (mkE ([(0, .lit (.string s)), (4, oAV out), (5, .lit (.int .i64 (no : Nat))), (6, wAV ws), (7, .lit (.string ⟨#[]⟩)), (8, .lit (.bool note)), (9, .lit (.int .i64 (i : Nat))), (10, .lit (.int .u8 10))] ++ r) []) Q := by
  have w2 := wrap_succ no (by omega)
  have b10 : ((10 : Int) == 10) = true := rfl
  rcases hr with rfl | rfl
  all_goals (
    cases ws with
    | nil =>
      rw [show outL no [] = [] from rfl, List.append_nil] at hQ
      simp only [go_sem, Nat.reduceAdd, Nat.reduceLT, Nat.reduceEqDiff, Nat.reduceBEq, Nat.reduceLeDiff, Nat.reduceSub, Int.reduceToNat, reduceCtorEq, ↓reduceIte, pLine, wAV, b10, List.cons_append, List.nil_append, List.append_nil, List.length_nil, c0, Int.lt_irrefl, decide_false, w2]
      exact hQ
    | cons u us =>
      have f : ((0 : Int) < ((us.length + 1 : Nat) : Int)) = True := eq_true (by omega)
      rw [show outL no (u :: us) = [(no, u :: us)] from rfl] at hQ
      cases out with
      | nil =>
        simp only [go_sem, Nat.reduceAdd, Nat.reduceLT, Nat.reduceEqDiff, Nat.reduceBEq, Nat.reduceLeDiff, Nat.reduceSub, Int.reduceToNat, reduceCtorEq, ↓reduceIte, pLine, wAV, oAV, b10, List.cons_append, List.nil_append, List.append_nil, List.map_cons, List.length_cons, f, decide_true, w2]
        rw [avApp_nil _ _ _ _ _ _ _ (by simp) (by decide)]
        simp only [go_sem, Nat.reduceAdd, Nat.reduceLT, Nat.reduceEqDiff, Nat.reduceBEq, Nat.reduceLeDiff, Nat.reduceSub, Int.reduceToNat, reduceCtorEq, ↓reduceIte, w2]
        exact hQ
      | cons p ps =>
        have e : oAV (p :: ps ++ [(no, u :: us)]) = .sl (.own [73]) 2 (lnW p :: (ps.map lnW ++ [lnW (no, u :: us)])) := by simp [oAV]
        rw [e] at hQ
        simp only [go_sem, Nat.reduceAdd, Nat.reduceLT, Nat.reduceEqDiff, Nat.reduceBEq, Nat.reduceLeDiff, Nat.reduceSub, Int.reduceToNat, reduceCtorEq, ↓reduceIte, pLine, wAV, oAV, b10, List.cons_append, List.nil_append, List.append_nil, List.map_cons, List.length_cons, f, decide_true, w2]
        rw [avApp_own _ _ _ _ _ _ _ (by simp at hol ⊢; omega) (by decide) rfl]
        simp only [go_sem, Nat.reduceAdd, Nat.reduceLT, Nat.reduceEqDiff, Nat.reduceBEq, Nat.reduceLeDiff, Nat.reduceSub, Int.reduceToNat, reduceCtorEq, ↓reduceIte, w2]
        exact hQ)

theorem P_noline (s : ByteArray) (out : WL) (no i : Nat) (ws : List (List UInt8)) (note : Bool) (c : Int) (hc : (c == 10) = false) (r : List (Nat × AV)) (hr : r = [] ∨ r = [(58, .lit (.bool false))]) (Q : AExit → Env → Prop)
    (hQ : Q .normal (mkE [(0, .lit (.string s)), (4, oAV out), (5, .lit (.int .i64 (no : Nat))), (6, wAV ws), (7, .lit (.string ⟨#[]⟩)), (8, .lit (.bool note)), (9, .lit (.int .i64 (i : Nat))), (64, .lit (.bool false))] [])) :
    aw Tryd.prog pLine (mkE ([(0, .lit (.string s)), (4, oAV out), (5, .lit (.int .i64 (no : Nat))), (6, wAV ws), (7, .lit (.string ⟨#[]⟩)), (8, .lit (.bool note)), (9, .lit (.int .i64 (i : Nat))), (10, .lit (.int .u8 c))] ++ r) []) Q := by
  rcases hr with rfl | rfl
  · simp only [go_sem, Nat.reduceAdd, Nat.reduceLT, Nat.reduceEqDiff, Nat.reduceBEq, Nat.reduceLeDiff, Nat.reduceSub, Int.reduceToNat, reduceCtorEq, ↓reduceIte, pLine, hc, List.cons_append, List.nil_append, List.append_nil]
    exact hQ
  · simp only [go_sem, Nat.reduceAdd, Nat.reduceLT, Nat.reduceEqDiff, Nat.reduceBEq, Nat.reduceLeDiff, Nat.reduceSub, Int.reduceToNat, reduceCtorEq, ↓reduceIte, pLine, hc, List.cons_append, List.nil_append, List.append_nil]
    exact hQ

theorem C_rLines (s : ByteArray) (h : s.size ≤ 16384) : AC Tryd.prog f_rivuletref5_Lines [avStr s] (.tup [oAV (rL s.data.toList 1 [] [] false), .lit (.int .i64 0)]) := by
  refine ac_rivuletref5_Lines ?_ (Nat.le_add_left 1 _) (by unfold oAV; split <;> rfl)
  have hsz : s.size = s.data.toList.length := Lib.size_eq s
  have e : ((16384 : Int) < (s.size : Int)) = False := eq_false (by omega)
  rw [c_eq]
  simp only [go_sem, Nat.reduceAdd, Nat.reduceLT, Nat.reduceEqDiff, Nat.reduceBEq, Nat.reduceLeDiff, Nat.reduceSub, Int.reduceToNat, reduceCtorEq, ↓reduceIte, avStr, e, decide_false]
  generalize hL : s.data.toList = l at hsz
  generalize hR : rL l 1 [] [] false = R
  refine aw_loop (fun m E => ∃ (i no : Nat) (out : WL) (ws : List (List UInt8)) (w : List UInt8) (note : Bool), i + m = l.length + 1 ∧ no ≤ i + 1 ∧ out.length ≤ i ∧ ws.length ≤ i ∧ w.length ≤ i ∧
    (i ≤ l.length → R = out ++ rL (l.drop i) no ws w note) ∧ (l.length < i → R = out) ∧
    E = mkE [(0, .lit (.string s)), (4, oAV out), (5, .lit (.int .i64 (no : Nat))), (6, wAV ws), (7, .lit (.string (toB w))), (8, .lit (.bool note)), (9, .lit (.int .i64 (i : Nat)))] []) (l.length + 1) ?_ ?_
  · exact ⟨0, 1, [], [], [], false, by omega, by omega, Nat.le_refl _, Nat.le_refl _, Nat.le_refl _, fun _ => by rw [List.drop_zero, hR]; rfl, fun h => by omega, rfl⟩
  · rintro m _ ⟨i, no, out, ws, w, note, hi, hno, hol, hwl, hww, hr, hr2, rfl⟩
    have w1 := wrap_succ i (by omega)
    have w2 := wrap_succ no (by omega)
    have enil : (toB []) = (⟨#[]⟩ : ByteArray) := rfl
    by_cases hil : i ≤ l.length
    · have f1 : ((i : Int) ≤ (s.size : Int)) = True := eq_true (by omega)
      replace hr := hr hil
      clear hr2
      by_cases hlt : i < l.length
      · have f2 : ((i : Int) < (s.size : Int)) = True := eq_true (by omega)
        obtain ⟨c, hc⟩ : ∃ c, l[i]? = some c := ⟨l[i], List.getElem?_eq_getElem hlt⟩
        have ib := avIxs_l s .i64 i c (by rw [hL]; exact hc)
        have hdrop : l.drop i = c :: l.drop (i + 1) := by
          rw [List.drop_eq_getElem_cons hlt]
          congr 1
          exact (List.getElem?_eq_some_iff.1 hc).2
        rw [hdrop, rL] at hr
        have n10 := byte_ne c 10 (by decide)
        have n32 := byte_ne c 32 (by decide)
        have n9 := byte_ne c 9 (by decide)
        have n13 := byte_ne c 13 (by decide)
        have q10 := byte_eq c 10 (by decide)
        have q35 := byte_eq c 35 (by decide)
        rw [show ((10 : Nat) : Int) = 10 from rfl, show UInt8.ofNat 10 = 10 from rfl] at n10 q10
        rw [show ((32 : Nat) : Int) = 32 from rfl, show UInt8.ofNat 32 = 32 from rfl] at n32
        rw [show ((9 : Nat) : Int) = 9 from rfl, show UInt8.ofNat 9 = 9 from rfl] at n9
        rw [show ((13 : Nat) : Int) = 13 from rfl, show UInt8.ofNat 13 = 13 from rfl] at n13
        rw [show ((35 : Nat) : Int) = 35 from rfl, show UInt8.ofNat 35 = 35 from rfl] at q35
        have flushed : ∀ (nt : Bool) (K : AExit → Env → Prop), (∀ r : List (Nat × AV), r = [] ∨ r = [(58, .lit (.bool false))] → K .normal (mkE ([(0, .lit (.string s)), (4, oAV out), (5, .lit (.int .i64 (no : Nat))), (6, wAV (pushW ws w)), (7, .lit (.string ⟨#[]⟩)), (8, .lit (.bool nt)), (9, .lit (.int .i64 (i : Nat))), (10, .lit (.int .u8 (c.toNat : Nat)))] ++ r) [])) →
            aw Tryd.prog pFlush (mkE [(0, .lit (.string s)), (4, oAV out), (5, .lit (.int .i64 (no : Nat))), (6, wAV ws), (7, .lit (.string (toB w))), (8, .lit (.bool nt)), (9, .lit (.int .i64 (i : Nat))), (10, .lit (.int .u8 (c.toNat : Nat))), (49, .lit (.bool false))] []) K :=
          fun nt K hK => P_flush s out no i ws w nt (c.toNat : Nat) K (by omega) hK
        have hpl : (pushW ws w).length ≤ i + 1 := by unfold pushW; split <;> (try simp) <;> omega
        have hol2 : (outL no (pushW ws w)).length ≤ 1 := by unfold outL; split <;> simp
        by_cases hword : (c ≠ 10 ∧ spB c = false) ∧ (note = false ∧ c ≠ 35)
        · rw [if_pos hword] at hr
          obtain ⟨⟨h10, hsp⟩, hnt, h35⟩ := hword
          subst hnt
          simp only [spB, Bool.or_eq_false_iff, beq_eq_false_iff_ne, ne_eq] at hsp
          have e10 : decide (c = 10) = false := by simpa using h10
          have e35 : decide (c = 35) = false := by simpa using h35
          have e32 : decide (c = 32) = false := by simpa using hsp.1
          have e9 : decide (c = 9) = false := by simpa using hsp.2.1
          have e13 : decide (c = 13) = false := by simpa using hsp.2.2
          have s1 : (0 ≤ (i : Int)) = True := eq_true (by omega)
          have s2 : ((i : Int) ≤ ((i + 1 : Nat) : Int)) = True := eq_true (by omega)
          have s3 : (((i + 1 : Nat) : Int) ≤ (s.size : Int)) = True := eq_true (by omega)
          have hsz1 : (s.extract i (i + 1)).size = 1 := by
            rw [Lib.size_eq, ext_drop, hL]
            simp
            omega
          have ad := avBin_sadd 9 (toB w) (s.extract i (i + 1)) (by rw [toB_size, hsz1]; omega)
          rw [cat_byte s w i c (by rw [hL]; exact hc)] at ad
          simp only [go_sem, Nat.reduceAdd, Nat.reduceLT, Nat.reduceEqDiff, Nat.reduceBEq, Nat.reduceLeDiff, Nat.reduceSub, Int.reduceToNat, reduceCtorEq, ↓reduceIte, f1, f2, ib, n10, n32, n9, n13, q10, q35, Bool.not_true, Bool.not_false, decide_true, decide_false, e10, e32, e9, e13, e35, w1, s1, s2, s3, and_self, Int.toNat_natCast, ad]
          exact ⟨m - 1, by omega, i + 1, no, out, ws, w ++ [c], false, by omega, by omega, by omega, by omega, by simp; omega, fun _ => hr, fun h => by omega, rfl⟩
        · rw [if_neg hword] at hr
          by_cases h10 : c = 10
          · rw [if_pos h10] at hr
            have e10 : decide (c = 10) = true := by simpa using h10
            have e35 : decide (c = 35) = false := by rw [h10]; rfl
            have fin : ∀ (nt : Bool) (K : AExit → Env → Prop), K .normal (mkE [(0, .lit (.string s)), (4, oAV (out ++ outL no (pushW ws w))), (5, .lit (.int .i64 ((no + 1 : Nat) : Int))), (6, .sl .nil 0 []), (7, .lit (.string ⟨#[]⟩)), (8, .lit (.bool false)), (9, .lit (.int .i64 (i : Nat)))] []) →
                ∀ r : List (Nat × AV), r = [] ∨ r = [(58, .lit (.bool false))] → aw Tryd.prog pLine (mkE ([(0, .lit (.string s)), (4, oAV out), (5, .lit (.int .i64 (no : Nat))), (6, wAV (pushW ws w)), (7, .lit (.string ⟨#[]⟩)), (8, .lit (.bool nt)), (9, .lit (.int .i64 (i : Nat))), (10, .lit (.int .u8 (c.toNat : Nat)))] ++ r) []) K := by
              intro nt K hK r hr'
              have hc10 : ((c.toNat : Nat) : Int) = 10 := by rw [h10]; rfl
              rw [hc10]
              exact P_line s out no i (pushW ws w) nt r hr' K (by omega) (by omega) hK
            cases note
            all_goals (
              simp only [go_sem, Nat.reduceAdd, Nat.reduceLT, Nat.reduceEqDiff, Nat.reduceBEq, Nat.reduceLeDiff, Nat.reduceSub, Int.reduceToNat, reduceCtorEq, ↓reduceIte, f1, f2, ib, n10, n32, n9, n13, q10, q35, Bool.not_true, Bool.not_false, decide_true, decide_false, e10, e35]
              refine flushed _ _ fun r hr' => ?_
              simp only [thenQ_n]
              refine fin _ _ ?_ r hr'
              simp only [go_sem, Nat.reduceAdd, Nat.reduceLT, Nat.reduceEqDiff, Nat.reduceBEq, Nat.reduceLeDiff, Nat.reduceSub, Int.reduceToNat, reduceCtorEq, ↓reduceIte, w1]
              refine ⟨m - 1, by omega, i + 1, no + 1, out ++ outL no (pushW ws w), [], [], false, by omega, by omega, by simp; omega, by simp, by simp, fun _ => ?_, fun h => by omega, rfl⟩
              rw [hr, List.append_assoc])
          · rw [if_neg h10] at hr
            have e10 : decide (c = 10) = false := by simpa using h10
            have hcb : (((c.toNat : Nat) : Int) == 10) = false := by rw [q10, e10]
            have fin : ∀ (nt : Bool) (K : AExit → Env → Prop), K .normal (mkE [(0, .lit (.string s)), (4, oAV out), (5, .lit (.int .i64 (no : Nat))), (6, wAV (pushW ws w)), (7, .lit (.string ⟨#[]⟩)), (8, .lit (.bool nt)), (9, .lit (.int .i64 (i : Nat))), (64, .lit (.bool false))] []) →
                ∀ r : List (Nat × AV), r = [] ∨ r = [(58, .lit (.bool false))] → aw Tryd.prog pLine (mkE ([(0, .lit (.string s)), (4, oAV out), (5, .lit (.int .i64 (no : Nat))), (6, wAV (pushW ws w)), (7, .lit (.string ⟨#[]⟩)), (8, .lit (.bool nt)), (9, .lit (.int .i64 (i : Nat))), (10, .lit (.int .u8 (c.toNat : Nat)))] ++ r) []) K :=
              fun nt K hK r hr' => P_noline s out no i (pushW ws w) nt (c.toNat : Nat) hcb r hr' K hK
            have rest : ∀ nt : Bool, (note || c == 35) = nt → ∀ (K : AExit → Env → Prop), (K .normal (mkE [(0, .lit (.string s)), (4, oAV out), (5, .lit (.int .i64 (no : Nat))), (6, wAV (pushW ws w)), (7, .lit (.string ⟨#[]⟩)), (8, .lit (.bool nt)), (9, .lit (.int .i64 (i : Nat))), (64, .lit (.bool false))] [])) → True := fun _ _ _ _ => trivial
            have fin2 : R = out ++ rL (l.drop (i + 1)) no (pushW ws w) [] (note || c == 35) := hr
            cases hnote : note with
            | true =>
              subst hnote
              rw [Bool.true_or] at fin2
              by_cases h32 : c = 32
              · have e32 : decide (c = 32) = true := by simpa using h32
                simp only [go_sem, Nat.reduceAdd, Nat.reduceLT, Nat.reduceEqDiff, Nat.reduceBEq, Nat.reduceLeDiff, Nat.reduceSub, Int.reduceToNat, reduceCtorEq, ↓reduceIte, f1, f2, ib, n10, n32, n9, n13, q10, q35, Bool.not_true, Bool.not_false, decide_true, decide_false, e10, e32]
                refine flushed _ _ fun r hr' => ?_
                simp only [thenQ_n]
                refine fin _ _ ?_ r hr'
                simp only [go_sem, Nat.reduceAdd, Nat.reduceLT, Nat.reduceEqDiff, Nat.reduceBEq, Nat.reduceLeDiff, Nat.reduceSub, Int.reduceToNat, reduceCtorEq, ↓reduceIte, w1]
                exact ⟨m - 1, by omega, i + 1, no, out, pushW ws w, [], _, by omega, by omega, by omega, by omega, by simp, fun _ => fin2, fun h => by omega, rfl⟩
              · have e32 : decide (c = 32) = false := by simpa using h32
                by_cases h9 : c = 9
                · have e9 : decide (c = 9) = true := by simpa using h9
                  simp only [go_sem, Nat.reduceAdd, Nat.reduceLT, Nat.reduceEqDiff, Nat.reduceBEq, Nat.reduceLeDiff, Nat.reduceSub, Int.reduceToNat, reduceCtorEq, ↓reduceIte, f1, f2, ib, n10, n32, n9, n13, q10, q35, Bool.not_true, Bool.not_false, decide_true, decide_false, e10, e32, e9]
                  refine flushed _ _ fun r hr' => ?_
                  simp only [thenQ_n]
                  refine fin _ _ ?_ r hr'
                  simp only [go_sem, Nat.reduceAdd, Nat.reduceLT, Nat.reduceEqDiff, Nat.reduceBEq, Nat.reduceLeDiff, Nat.reduceSub, Int.reduceToNat, reduceCtorEq, ↓reduceIte, w1]
                  exact ⟨m - 1, by omega, i + 1, no, out, pushW ws w, [], _, by omega, by omega, by omega, by omega, by simp, fun _ => fin2, fun h => by omega, rfl⟩
                · have e9 : decide (c = 9) = false := by simpa using h9
                  by_cases h13 : c = 13
                  · have e13 : decide (c = 13) = true := by simpa using h13
                    simp only [go_sem, Nat.reduceAdd, Nat.reduceLT, Nat.reduceEqDiff, Nat.reduceBEq, Nat.reduceLeDiff, Nat.reduceSub, Int.reduceToNat, reduceCtorEq, ↓reduceIte, f1, f2, ib, n10, n32, n9, n13, q10, q35, Bool.not_true, Bool.not_false, decide_true, decide_false, e10, e32, e9, e13]
                    refine flushed _ _ fun r hr' => ?_
                    simp only [thenQ_n]
                    refine fin _ _ ?_ r hr'
                    simp only [go_sem, Nat.reduceAdd, Nat.reduceLT, Nat.reduceEqDiff, Nat.reduceBEq, Nat.reduceLeDiff, Nat.reduceSub, Int.reduceToNat, reduceCtorEq, ↓reduceIte, w1]
                    exact ⟨m - 1, by omega, i + 1, no, out, pushW ws w, [], _, by omega, by omega, by omega, by omega, by simp, fun _ => fin2, fun h => by omega, rfl⟩
                  · have e13 : decide (c = 13) = false := by simpa using h13
                    simp only [go_sem, Nat.reduceAdd, Nat.reduceLT, Nat.reduceEqDiff, Nat.reduceBEq, Nat.reduceLeDiff, Nat.reduceSub, Int.reduceToNat, reduceCtorEq, ↓reduceIte, f1, f2, ib, n10, n32, n9, n13, q10, q35, Bool.not_true, Bool.not_false, decide_true, decide_false, e10, e32, e9, e13]
                    refine flushed _ _ fun r hr' => ?_
                    simp only [thenQ_n]
                    refine fin _ _ ?_ r hr'
                    simp only [go_sem, Nat.reduceAdd, Nat.reduceLT, Nat.reduceEqDiff, Nat.reduceBEq, Nat.reduceLeDiff, Nat.reduceSub, Int.reduceToNat, reduceCtorEq, ↓reduceIte, w1]
                    exact ⟨m - 1, by omega, i + 1, no, out, pushW ws w, [], _, by omega, by omega, by omega, by omega, by simp, fun _ => fin2, fun h => by omega, rfl⟩
            | false =>
              subst hnote
              rw [Bool.false_or] at fin2
              by_cases h35 : c = 35
              · have e35 : decide (c = 35) = true := by simpa using h35
                have e32 : decide (c = 32) = false := by rw [h35]; rfl
                have e9 : decide (c = 9) = false := by rw [h35]; rfl
                have e13 : decide (c = 13) = false := by rw [h35]; rfl
                rw [show (c == 35) = true by simpa using h35] at fin2
                simp only [go_sem, Nat.reduceAdd, Nat.reduceLT, Nat.reduceEqDiff, Nat.reduceBEq, Nat.reduceLeDiff, Nat.reduceSub, Int.reduceToNat, reduceCtorEq, ↓reduceIte, f1, f2, ib, n10, n32, n9, n13, q10, q35, Bool.not_true, Bool.not_false, decide_true, decide_false, e10, e35, e32, e9, e13]
                refine flushed _ _ fun r hr' => ?_
                simp only [thenQ_n]
                refine fin _ _ ?_ r hr'
                simp only [go_sem, Nat.reduceAdd, Nat.reduceLT, Nat.reduceEqDiff, Nat.reduceBEq, Nat.reduceLeDiff, Nat.reduceSub, Int.reduceToNat, reduceCtorEq, ↓reduceIte, w1]
                exact ⟨m - 1, by omega, i + 1, no, out, pushW ws w, [], _, by omega, by omega, by omega, by omega, by simp, fun _ => fin2, fun h => by omega, rfl⟩
              · have e35 : decide (c = 35) = false := by simpa using h35
                rw [show (c == 35) = false by simpa using h35] at fin2
                have hs : spB c = true := by
                  cases h : spB c with
                  | true => rfl
                  | false => exact absurd ⟨⟨h10, h⟩, rfl, h35⟩ hword
                by_cases h32 : c = 32
                · have e32 : decide (c = 32) = true := by simpa using h32
                  simp only [go_sem, Nat.reduceAdd, Nat.reduceLT, Nat.reduceEqDiff, Nat.reduceBEq, Nat.reduceLeDiff, Nat.reduceSub, Int.reduceToNat, reduceCtorEq, ↓reduceIte, f1, f2, ib, n10, n32, n9, n13, q10, q35, Bool.not_true, Bool.not_false, decide_true, decide_false, e10, e35, e32]
                  refine flushed _ _ fun r hr' => ?_
                  simp only [thenQ_n]
                  refine fin _ _ ?_ r hr'
                  simp only [go_sem, Nat.reduceAdd, Nat.reduceLT, Nat.reduceEqDiff, Nat.reduceBEq, Nat.reduceLeDiff, Nat.reduceSub, Int.reduceToNat, reduceCtorEq, ↓reduceIte, w1]
                  exact ⟨m - 1, by omega, i + 1, no, out, pushW ws w, [], _, by omega, by omega, by omega, by omega, by simp, fun _ => fin2, fun h => by omega, rfl⟩
                · have e32 : decide (c = 32) = false := by simpa using h32
                  by_cases h9 : c = 9
                  · have e9 : decide (c = 9) = true := by simpa using h9
                    simp only [go_sem, Nat.reduceAdd, Nat.reduceLT, Nat.reduceEqDiff, Nat.reduceBEq, Nat.reduceLeDiff, Nat.reduceSub, Int.reduceToNat, reduceCtorEq, ↓reduceIte, f1, f2, ib, n10, n32, n9, n13, q10, q35, Bool.not_true, Bool.not_false, decide_true, decide_false, e10, e35, e32, e9]
                    refine flushed _ _ fun r hr' => ?_
                    simp only [thenQ_n]
                    refine fin _ _ ?_ r hr'
                    simp only [go_sem, Nat.reduceAdd, Nat.reduceLT, Nat.reduceEqDiff, Nat.reduceBEq, Nat.reduceLeDiff, Nat.reduceSub, Int.reduceToNat, reduceCtorEq, ↓reduceIte, w1]
                    exact ⟨m - 1, by omega, i + 1, no, out, pushW ws w, [], _, by omega, by omega, by omega, by omega, by simp, fun _ => fin2, fun h => by omega, rfl⟩
                  · have e9 : decide (c = 9) = false := by simpa using h9
                    have h13 : c = 13 := by
                      simp only [spB, Bool.or_eq_true, beq_iff_eq] at hs
                      rcases hs with h | h | h
                      · exact absurd h h32
                      · exact absurd h h9
                      · exact h
                    have e13 : decide (c = 13) = true := by simpa using h13
                    simp only [go_sem, Nat.reduceAdd, Nat.reduceLT, Nat.reduceEqDiff, Nat.reduceBEq, Nat.reduceLeDiff, Nat.reduceSub, Int.reduceToNat, reduceCtorEq, ↓reduceIte, f1, f2, ib, n10, n32, n9, n13, q10, q35, Bool.not_true, Bool.not_false, decide_true, decide_false, e10, e35, e32, e9, e13]
                    refine flushed _ _ fun r hr' => ?_
                    simp only [thenQ_n]
                    refine fin _ _ ?_ r hr'
                    simp only [go_sem, Nat.reduceAdd, Nat.reduceLT, Nat.reduceEqDiff, Nat.reduceBEq, Nat.reduceLeDiff, Nat.reduceSub, Int.reduceToNat, reduceCtorEq, ↓reduceIte, w1]
                    exact ⟨m - 1, by omega, i + 1, no, out, pushW ws w, [], _, by omega, by omega, by omega, by omega, by simp, fun _ => fin2, fun h => by omega, rfl⟩
      · have f2 : ((i : Int) < (s.size : Int)) = False := eq_false (by omega)
        have hd : l.drop i = [] := List.drop_eq_nil_of_le (by omega)
        rw [hd, rL] at hr
        have hol2 : (outL no (pushW ws w)).length ≤ 1 := by unfold outL; split <;> simp
        have b1 : ((10 : Int) == 35) = false := by decide
        have b2 : ((10 : Int) != 10) = false := by decide
        cases note
        all_goals (
          simp only [go_sem, Nat.reduceAdd, Nat.reduceLT, Nat.reduceEqDiff, Nat.reduceBEq, Nat.reduceLeDiff, Nat.reduceSub, Int.reduceToNat, reduceCtorEq, ↓reduceIte, f1, f2, b1, b2, decide_true, decide_false]
          refine P_flush s out no i ws w _ 10 _ (by omega) fun r hr' => ?_
          simp only [thenQ_n]
          refine P_line s out no i (pushW ws w) _ r hr' _ (by omega) (by omega) ?_
          simp only [go_sem, Nat.reduceAdd, Nat.reduceLT, Nat.reduceEqDiff, Nat.reduceBEq, Nat.reduceLeDiff, Nat.reduceSub, Int.reduceToNat, reduceCtorEq, ↓reduceIte, w1]
          exact ⟨m - 1, by omega, i + 1, no + 1, out ++ outL no (pushW ws w), [], [], false, by omega, by omega, by simp; omega, by simp, by simp, fun h => by omega, fun _ => hr, rfl⟩)
    · have f1 : ((i : Int) ≤ (s.size : Int)) = False := eq_false (by omega)
      have hr := hr2 (by omega)
      simp only [go_sem, Nat.reduceAdd, Nat.reduceLT, Nat.reduceEqDiff, Nat.reduceBEq, Nat.reduceLeDiff, Nat.reduceSub, Int.reduceToNat, reduceCtorEq, ↓reduceIte, f1, decide_false]
      rw [hr]
      cases out <;> simp only [go_sem, Nat.reduceAdd, Nat.reduceLT, Nat.reduceEqDiff, Nat.reduceBEq, Nat.reduceLeDiff, Nat.reduceSub, Int.reduceToNat, reduceCtorEq, ↓reduceIte, oAV]

end Go.Proofs.YtodnphnbnneegaaDoor.VL
