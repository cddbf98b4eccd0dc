/- addr.Parse, ParsePrefix, PrefixText; rivuletref.SamePrefix; addr.Group. -/
import Derived.Test.YtodnphnbnneegaaDoorAddr5
set_option linter.unusedVariables false
set_option linter.unusedSimpArgs false
set_option maxHeartbeats 4000000
namespace Go.Proofs.YtodnphnbnneegaaDoor.VL
open Go.RowKit Go.Proofs

/-- ErrAddr, or nothing. -/
def errA (ok : Bool) : AV := if ok = true then .lit .nilIface else .gl 4
theorem gs4 : (4 ∈ GS) = True := eq_true (by simp [GS])
theorem parseP_no {l : List ByteArray} (h : (parseP l).2 = false) : parseP l = (0, false) := by
  unfold parseP at h ⊢
  repeat' split
  all_goals first | rfl | (simp_all; done)

theorem C_Parse (s : ByteArray) (hs : s.size < 4294967281) : AC Tryd.prog f_addr_Parse [avStr s] (.tup [avU (parseP (parts s 46)).1, errA (parseP (parts s 46)).2]) := by
  refine ac_addr_Parse ?_ (Nat.le_add_left 1 _) (by cases (parseP (parts s 46)).2 <;> rfl)
  simp only [go_sem, Nat.reduceAdd, Nat.reduceLT, Nat.reduceEqDiff, Nat.reduceBEq, Nat.reduceLeDiff, Nat.reduceSub, Int.reduceToNat, reduceCtorEq, ↓reduceIte, c_addr_Parse, avStr]
  refine callX_of (C_parse s hs) ?_
  cases h : (parseP (parts s 46)).2
  · rw [parseP_no h]
    simp only [go_sem, Nat.reduceAdd, Nat.reduceLT, Nat.reduceEqDiff, Nat.reduceBEq, Nat.reduceLeDiff, Nat.reduceSub, Int.reduceToNat, reduceCtorEq, ↓reduceIte, avU, errA, gs4, c0, Bool.false_eq_true]
  · simp only [go_sem, Nat.reduceAdd, Nat.reduceLT, Nat.reduceEqDiff, Nat.reduceBEq, Nat.reduceLeDiff, Nat.reduceSub, Int.reduceToNat, reduceCtorEq, ↓reduceIte, avU, errA, h]

/-- addr.ParsePrefix -/
def cutX (s : ByteArray) : ByteArray := ⟨(Lib.cut s.data.toList [47]).1.toArray⟩
def cutY (s : ByteArray) : ByteArray := ⟨(Lib.cut s.data.toList [47]).2.1.toArray⟩
def pfxV (s : ByteArray) : (Nat × Int) × Bool :=
  if (parseP (parts (cutX s) 46)).2 = true then if (numV (cutY s) 32).2 = true then if validN (parseP (parts (cutX s) 46)).1 (numV (cutY s) 32).1 = true then (((parseP (parts (cutX s) 46)).1, (numV (cutY s) 32).1), true)
    else ((0, 0), false) else ((0, 0), false) else ((0, 0), false)

theorem ofB_lt4 (b : Nat → Nat) (h : ∀ i, i < 4 → b i < 256) : ofB b 4 < 4294967296 := ofB_lt b 4 h
theorem pB_lt {p0 p1 p2 p3 : ByteArray} (g0 : (numV p0 255).2 = true) (g1 : (numV p1 255).2 = true) (g2 : (numV p2 255).2 = true) (g3 : (numV p3 255).2 = true) : ∀ i, i < 4 → pB p0 p1 p2 p3 i < 256 := by
  intro i hi
  match i, hi with
  | 0, _ => have := numV_ok g0; simp only [pB]; omega
  | 1, _ => have := numV_ok g1; simp only [pB]; omega
  | 2, _ => have := numV_ok g2; simp only [pB]; omega
  | 3, _ => have := numV_ok g3; simp only [pB]; omega
theorem parseP_lt (l : List ByteArray) : (parseP l).1 < 4294967296 := by
  unfold parseP
  repeat' split
  all_goals first
    | (rename_i h0 h1 h2 h3; exact ofB_lt4 _ (pB_lt h0 h1 h2 h3))
    | decide

theorem cut_size (s : ByteArray) : (cutX s).size ≤ s.size := by
  show (Lib.cut s.data.toList [47]).1.toArray.size ≤ s.data.size
  unfold Lib.cut
  split
  · simp; omega
  · simp

theorem C_ParsePrefix (s : ByteArray) (hs : s.size < 4294967281) : AC Tryd.prog f_addr_ParsePrefix [avStr s] (.tup [avPfx (pfxV s).1.1 (pfxV s).1.2, errA (pfxV s).2]) := by
  refine ac_addr_ParsePrefix ?_ (Nat.le_add_left 1 _) (by cases (pfxV s).2 <;> rfl)
  have hc := C_Cut s ⟨#[47]⟩ hs
  simp only [go_sem, Nat.reduceAdd, Nat.reduceLT, Nat.reduceEqDiff, Nat.reduceBEq, Nat.reduceLeDiff, Nat.reduceSub, Int.reduceToNat, reduceCtorEq, ↓reduceIte, c_addr_ParsePrefix, avStr]
  refine callX_of hc ?_
  have hx : (⟨(Lib.cut s.data.toList (⟨#[47]⟩ : ByteArray).data.toList).1.toArray⟩ : ByteArray) = cutX s := rfl
  have hy : (⟨(Lib.cut s.data.toList (⟨#[47]⟩ : ByteArray).data.toList).2.1.toArray⟩ : ByteArray) = cutY s := rfl
  rw [hx, hy]
  have hxs := cut_size s
  simp only [go_sem, Nat.reduceAdd, Nat.reduceLT, Nat.reduceEqDiff, Nat.reduceBEq, Nat.reduceLeDiff, Nat.reduceSub, Int.reduceToNat, reduceCtorEq, ↓reduceIte, avStr]
  refine callX_of (C_parse (cutX s) (by omega)) ?_
  have hlt := parseP_lt (parts (cutX s) 46)
  simp only [go_sem, Nat.reduceAdd, Nat.reduceLT, Nat.reduceEqDiff, Nat.reduceBEq, Nat.reduceLeDiff, Nat.reduceSub, Int.reduceToNat, reduceCtorEq, ↓reduceIte, avU]
  refine callX_of (C_number (cutY s) 32 (by decide)) ?_
  unfold pfxV
  generalize parseP (parts (cutX s) 46) = p at hlt ⊢
  generalize numV (cutY s) 32 = n
  obtain ⟨a, is⟩ := p
  obtain ⟨b, has⟩ := n
  simp only [go_sem, Nat.reduceAdd, Nat.reduceLT, Nat.reduceEqDiff, Nat.reduceBEq, Nat.reduceLeDiff, Nat.reduceSub, Int.reduceToNat, reduceCtorEq, ↓reduceIte, avU, avPfx, errA]
  cases is
  · simp only [go_sem, Nat.reduceAdd, Nat.reduceLT, Nat.reduceEqDiff, Nat.reduceBEq, Nat.reduceLeDiff, Nat.reduceSub, Int.reduceToNat, reduceCtorEq, ↓reduceIte, avU, avPfx, errA, gs4, c0, Bool.false_eq_true]
  · cases has
    · simp only [go_sem, Nat.reduceAdd, Nat.reduceLT, Nat.reduceEqDiff, Nat.reduceBEq, Nat.reduceLeDiff, Nat.reduceSub, Int.reduceToNat, reduceCtorEq, ↓reduceIte, avU, avPfx, errA, gs4, c0, Bool.false_eq_true]
    · simp only [go_sem, Nat.reduceAdd, Nat.reduceLT, Nat.reduceEqDiff, Nat.reduceBEq, Nat.reduceLeDiff, Nat.reduceSub, Int.reduceToNat, reduceCtorEq, ↓reduceIte, avU, avPfx, errA, gs4, c0, Bool.false_eq_true]
      refine callX_of (C_Valid a b hlt) ?_
      cases validN a b
      · simp only [go_sem, Nat.reduceAdd, Nat.reduceLT, Nat.reduceEqDiff, Nat.reduceBEq, Nat.reduceLeDiff, Nat.reduceSub, Int.reduceToNat, reduceCtorEq, ↓reduceIte, avU, avPfx, errA, gs4, c0, Bool.false_eq_true]
      · simp only [go_sem, Nat.reduceAdd, Nat.reduceLT, Nat.reduceEqDiff, Nat.reduceBEq, Nat.reduceLeDiff, Nat.reduceSub, Int.reduceToNat, reduceCtorEq, ↓reduceIte, avU, avPfx, errA, gs4, c0, Bool.false_eq_true]

/-- Two texts one behind the other. -/
def catB (p q : ByteArray) : ByteArray := p ++ q
theorem avBin_sadd (t : TypeId) (p q : ByteArray) (h : p.size + q.size < 9223372036854775807) : avBin .add t (.lit (.string p)) (.lit (.string q)) = some (.lit (.string (catB p q))) := by
  have h' : ¬ (9223372036854775807 : Int) < (p.size : Int) + (q.size : Int) := by omega
  simp [avBin, binOp, Op.stringOp, p0, Pure.pure, catB, h']

theorem C_PrefixText (a : Nat) (b : Nat) (ha : a < 4294967296) (hb : b ≤ 32) : AC Tryd.prog f_addr_PrefixText [avPfx a (b : Nat)] (avStr (catB (catB (textB (bytN a)) ⟨#[47]⟩) (decB b))) := by
  refine ac_addr_PrefixText ?_ (Nat.le_add_left 1 _)
  simp only [go_sem, Nat.reduceAdd, Nat.reduceLT, Nat.reduceEqDiff, Nat.reduceBEq, Nat.reduceLeDiff, Nat.reduceSub, Int.reduceToNat, reduceCtorEq, ↓reduceIte, c_addr_PrefixText, avPfx, avU]
  refine callX_of (C_Text' a ha) ?_
  have hs1 : (textB (bytN a)).size ≤ 15 := by
    have := text_len (bytN a) fun i _ => bytN_lt a i
    simpa [textB, joinDot, ByteArray.size] using this
  have hs2 : (decB b).size ≤ 3 := by
    have := dec_len b (by omega)
    simpa [decB, ByteArray.size] using this
  have e1 := avBin_sadd 9 (textB (bytN a)) ⟨#[47]⟩ (by show _ + 1 < _; omega)
  have hs3 : (catB (textB (bytN a)) ⟨#[47]⟩).size = (textB (bytN a)).size + 1 := by simp [catB, ByteArray.size_append]; rfl
  have e2 := avBin_sadd 9 (catB (textB (bytN a)) ⟨#[47]⟩) (decB b) (by omega)
  simp only [go_sem, Nat.reduceAdd, Nat.reduceLT, Nat.reduceEqDiff, Nat.reduceBEq, Nat.reduceLeDiff, Nat.reduceSub, Int.reduceToNat, reduceCtorEq, ↓reduceIte, avStr, e1]
  refine callX_of (C_Itoa b (by omega)) ?_
  simp only [go_sem, Nat.reduceAdd, Nat.reduceLT, Nat.reduceEqDiff, Nat.reduceBEq, Nat.reduceLeDiff, Nat.reduceSub, Int.reduceToNat, reduceCtorEq, ↓reduceIte, avStr, e2]

theorem C_SamePrefix (a : Nat) (b : Int) (c : Nat) (d : Int) : AC Tryd.prog f_rivuletref_SamePrefix [avPfx a b, avPfx c d] (.lit (.bool (decide (a = c) && (b == d)))) := by
  refine ac_rivuletref_SamePrefix ?_ (Nat.le_add_left 2 _)
  simp only [go_sem, Nat.reduceAdd, Nat.reduceLT, Nat.reduceEqDiff, Nat.reduceBEq, Nat.reduceLeDiff, Nat.reduceSub, Int.reduceToNat, reduceCtorEq, ↓reduceIte, c_rivuletref_SamePrefix, avPfx, avU, nat_beq]
  cases decide (a = c)
  · simp only [go_sem, Nat.reduceAdd, Nat.reduceLT, Nat.reduceEqDiff, Nat.reduceBEq, Nat.reduceLeDiff, Nat.reduceSub, Int.reduceToNat, reduceCtorEq, ↓reduceIte]
  · simp only [go_sem, Nat.reduceAdd, Nat.reduceLT, Nat.reduceEqDiff, Nat.reduceBEq, Nat.reduceLeDiff, Nat.reduceSub, Int.reduceToNat, reduceCtorEq, ↓reduceIte, Bool.true_and]

/-- A group's. -/
def groupN (a : Nat) : Bool := decide (3758096384 ≤ a) && decide (a < 4026531840)
theorem C_Group (a : Nat) (ha : a < 4294967296) : AC Tryd.prog f_addr_Group [avU a] (.lit (.bool (groupN a))) := by
  refine ac_addr_Group ?_ (Nat.le_add_left 1 _)
  simp only [go_sem, Nat.reduceAdd, Nat.reduceLT, Nat.reduceEqDiff, Nat.reduceBEq, Nat.reduceLeDiff, Nat.reduceSub, Int.reduceToNat, reduceCtorEq, ↓reduceIte, c_addr_Group, avU]
  refine callX_of (C_Bytes a ha) ?_
  have e0 : bytN a 0 = a / 16777216 := by simp only [bytN, Nat.sub_zero, Nat.reduceMul, Nat.reducePow]; omega
  simp only [go_sem, Nat.reduceAdd, Nat.reduceLT, Nat.reduceEqDiff, Nat.reduceBEq, Nat.reduceLeDiff, Nat.reduceSub, Int.reduceToNat, reduceCtorEq, ↓reduceIte, avBytes, avB, c0, c1, c2, c3, c4, Int.reduceLT, Int.reduceLE, Nat.reduceMul, e0]
  by_cases h : 224 ≤ a / 16777216
  · have h1 : ((224 : Int) ≤ ((a / 16777216 : Nat) : Int)) = True := eq_true (by omega)
    have h2 : decide (3758096384 ≤ a) = true := by simp only [decide_eq_true_eq]; omega
    have h3 : decide (((a / 16777216 : Nat) : Int) ≤ 239) = decide (a < 4026531840) := by rw [decide_eq_decide]; omega
    simp only [go_sem, Nat.reduceAdd, Nat.reduceLT, Nat.reduceEqDiff, Nat.reduceBEq, Nat.reduceLeDiff, Nat.reduceSub, Int.reduceToNat, reduceCtorEq, ↓reduceIte, h1, decide_true, c4, c0, Int.reduceLT, Int.reduceLE, Nat.reduceMul, h3, groupN, h2, Bool.true_and]
  · have h1 : ((224 : Int) ≤ ((a / 16777216 : Nat) : Int)) = False := eq_false (by omega)
    have h2 : decide (3758096384 ≤ a) = false := by simp only [decide_eq_false_iff_not]; omega
    simp only [go_sem, Nat.reduceAdd, Nat.reduceLT, Nat.reduceEqDiff, Nat.reduceBEq, Nat.reduceLeDiff, Nat.reduceSub, Int.reduceToNat, reduceCtorEq, ↓reduceIte, h1, decide_false, groupN, h2, Bool.false_and]

end Go.Proofs.YtodnphnbnneegaaDoor.VL
