/- lex.Lines: the walk. -/
import Derived.Test.YtodnphnbnneegaaDoorLex1
set_option linter.unusedVariables false
set_option linter.unusedSimpArgs false
set_option maxHeartbeats 4000000
namespace Go.Proofs.YtodnphnbnneegaaDoor.VL
open Go.RowKit Go.Proofs

def avLine (p : Nat × List ByteArray) : AV := .agg [.lit (.int .i64 (p.1 : Nat)), .sl .none 1 (p.2.map avStr)]
/-- A line's words. -/
def wordsOf (x : ByteArray) : List ByteArray := fieldsB ⟨(Lib.cut x.data.toList [35]).1.toArray⟩
def lineOf (i : Nat) (x : ByteArray) : List (Nat × List ByteArray) := if wordsOf x = [] then [] else [(i + 1, wordsOf x)]
def linesGo : Nat → List ByteArray → List (Nat × List ByteArray)
  | _, [] => []
  | i, x :: r => lineOf i x ++ linesGo (i + 1) r
def linesV (s : ByteArray) : List (Nat × List ByteArray) := linesGo 0 (parts s 10)
def outAV (d : List Nat) (l : List (Nat × List ByteArray)) : AV := match l with
  | [] => .sl .nil 0 []
  | p :: r => .sl (.own d) 2 ((p :: r).map avLine)

theorem linesGo_app : ∀ (a : List ByteArray) (i : Nat) (x : ByteArray), linesGo i (a ++ [x]) = linesGo i a ++ lineOf (i + a.length) x
  | [], i, x => by simp [linesGo]
  | y :: a, i, x => by
    rw [List.cons_append, linesGo, linesGo, linesGo_app a (i + 1) x, List.append_assoc, List.length_cons]
    congr 3
    omega
theorem linesGo_len : ∀ (a : List ByteArray) (i : Nat), (linesGo i a).length ≤ a.length
  | [], _ => by simp [linesGo]
  | y :: a, i => by
    have := linesGo_len a (i + 1)
    have h : (lineOf i y).length ≤ 1 := by unfold lineOf; split <;> simp
    simp only [linesGo, List.length_append, List.length_cons]
    omega

theorem parts_len (s : ByteArray) (c : UInt8) : (parts s c).length ≤ s.size + 1 := by
  have h1 := Lib.splitB_length_le ⟨#[c]⟩ 0 (Lib.countB s ⟨#[c]⟩) s
  have h2 := Lib.countB_le ⟨#[c]⟩ (show 1 ≤ 1 from Nat.le_refl _) s.size s (Nat.le_refl _)
  unfold parts
  omega

theorem cutN_size (c : UInt8) (x : ByteArray) : (⟨(Lib.cut x.data.toList [c]).1.toArray⟩ : ByteArray).size ≤ x.size := by
  show (Lib.cut x.data.toList [c]).1.toArray.size ≤ x.data.size
  unfold Lib.cut
  split
  · simp; omega
  · simp

theorem part_size (s : ByteArray) (c : UInt8) (x : ByteArray) (hx : x ∈ parts s c) : x.size ≤ s.size := by
  rw [parts_spl] at hx
  obtain ⟨l, hl, rfl⟩ := List.mem_map.1 hx
  have key : ∀ (m l : List UInt8), l ∈ spl c m → l.length ≤ m.length := by
    intro m
    induction m with
    | nil => intro l hl; simp [spl] at hl; subst hl; simp
    | cons b m ih =>
      intro l hl
      rw [spl] at hl
      split at hl
      · rcases List.mem_cons.1 hl with rfl | hl
        · simp
        · have := ih l hl
          simp only [List.length_cons]
          omega
      · split at hl
        · rename_i h t e
          rcases List.mem_cons.1 hl with rfl | hl
          · have := ih h (by rw [e]; exact List.mem_cons_self)
            simp only [List.length_cons]
            omega
          · have := ih l (by rw [e]; exact List.mem_cons_of_mem _ hl)
            simp only [List.length_cons]
            omega
        · rename_i e
          exact absurd e (spl_ne c m)
  have := key _ l hl
  rw [Lib.size_eq, Lib.size_eq, data_toB]
  exact this

theorem gs0 : (0 ∈ GS) = True := eq_true (by simp [GS])

theorem C_Lines_many (s : ByteArray) (h : 16384 < s.size) : AC Tryd.prog f_lex_Lines [avStr s] (.tup [.sl .nil 0 [], .gl 0]) := by
  refine ac_lex_Lines ?_ (Nat.le_add_left 1 _)
  have e : ((16384 : Int) < (s.size : Int)) = True := eq_true (by omega)
  simp only [go_sem, Nat.reduceAdd, Nat.reduceLT, Nat.reduceEqDiff, Nat.reduceBEq, Nat.reduceLeDiff, Nat.reduceSub, Int.reduceToNat, reduceCtorEq, ↓reduceIte, c_lex_Lines, avStr, e, decide_true, gs0]

theorem C_Lines (s : ByteArray) (h : s.size ≤ 16384) : AC Tryd.prog f_lex_Lines [avStr s] (.tup [outAV [37] (linesV s), .lit .nilIface]) := by
  refine ac_lex_Lines ?_ (Nat.le_add_left 1 _) (by unfold outAV; split <;> rfl)
  have e : ((16384 : Int) < (s.size : Int)) = False := eq_false (by omega)
  have hS := C_Split s ⟨#[10]⟩ (by omega) (by decide)
  have hp : Lib.splitB ⟨#[10]⟩ 0 (Lib.countB s ⟨#[10]⟩) s = parts s 10 := rfl
  have hlen := parts_len s 10
  have hsz := part_size s 10
  rw [hp] at hS
  unfold linesV
  generalize parts s 10 = ps at hS hlen hsz
  simp only [go_sem, Nat.reduceAdd, Nat.reduceLT, Nat.reduceEqDiff, Nat.reduceBEq, Nat.reduceLeDiff, Nat.reduceSub, Int.reduceToNat, reduceCtorEq, ↓reduceIte, c_lex_Lines, avStr, e, decide_false]
  refine callX_of hS ?_
  simp only [go_sem, Nat.reduceAdd, Nat.reduceLT, Nat.reduceEqDiff, Nat.reduceBEq, Nat.reduceLeDiff, Nat.reduceSub, Int.reduceToNat, reduceCtorEq, ↓reduceIte, List.length_map]
  refine aw_loop (fun m E => ∃ k : Nat, k + m = ps.length ∧ E = mkE [(4, outAV [37] (linesGo 0 (ps.take k))), (13, .sl .none 1 (ps.map avStr)), (14, .lit (.int .i64 (ps.length : Nat))), (15, .lit (.int .i64 (k : Nat)))] []) ps.length ?_ ?_
  · exact ⟨0, by omega, by simp only [go_sem, Nat.reduceAdd, Nat.reduceLT, Nat.reduceEqDiff, Nat.reduceBEq, Nat.reduceLeDiff, Nat.reduceSub, Int.reduceToNat, reduceCtorEq, ↓reduceIte]; rfl⟩
  · rintro m _ ⟨k, hk, rfl⟩
    by_cases hkl : k < ps.length
    · obtain ⟨x, hx⟩ : ∃ x, ps[k]? = some x := ⟨ps[k], List.getElem?_eq_getElem hkl⟩
      have hxm := List.mem_of_getElem? hx
      have hxs := hsz x hxm
      have f1 : ((k : Int) < (ps.length : Int)) = True := eq_true (by omega)
      have f2 : (0 ≤ (k : Int)) = True := eq_true (by omega)
      have hg : (ps.map avStr)[k]? = some (avStr x) := by rw [List.getElem?_map, hx]; rfl
      have hC := C_Cut x ⟨#[35]⟩ (by omega)
      have hc35 : (⟨#[35]⟩ : ByteArray).data.toList = [35] := rfl
      rw [hc35] at hC
      have hF := C_FieldsFunc ⟨(Lib.cut x.data.toList [35]).1.toArray⟩ (by have := cutN_size 35 x; omega)
      rw [show fieldsB ⟨(Lib.cut x.data.toList [35]).1.toArray⟩ = wordsOf x from rfl] at hF
      have htake : ps.take (k + 1) = ps.take k ++ [x] := by rw [List.take_add_one, hx]; rfl
      have hgo : linesGo 0 (ps.take (k + 1)) = linesGo 0 (ps.take k) ++ lineOf k x := by
        rw [htake, linesGo_app, List.length_take, Nat.min_eq_left (by omega), Nat.zero_add]
      have hl1 := linesGo_len (ps.take k) 0
      rw [List.length_take] at hl1
      have w1 := wrap_succ k (by omega)
      simp only [avStr] at hC hF
      simp only [go_sem, Nat.reduceAdd, Nat.reduceLT, Nat.reduceEqDiff, Nat.reduceBEq, Nat.reduceLeDiff, Nat.reduceSub, Int.reduceToNat, reduceCtorEq, ↓reduceIte, f1, f2, hg, decide_true, Int.toNat_natCast, avStr]
      refine callX_of hC ?_
      simp only [go_sem, Nat.reduceAdd, Nat.reduceLT, Nat.reduceEqDiff, Nat.reduceBEq, Nat.reduceLeDiff, Nat.reduceSub, Int.reduceToNat, reduceCtorEq, ↓reduceIte, avStr]
      refine callX_of hF ?_
      simp only [go_sem, Nat.reduceAdd, Nat.reduceLT, Nat.reduceEqDiff, Nat.reduceBEq, Nat.reduceLeDiff, Nat.reduceSub, Int.reduceToNat, reduceCtorEq, ↓reduceIte, List.length_map]
      by_cases hw : wordsOf x = []
      · have e0 : lineOf k x = [] := if_pos hw
        rw [e0, List.append_nil] at hgo
        simp only [go_sem, Nat.reduceAdd, Nat.reduceLT, Nat.reduceEqDiff, Nat.reduceBEq, Nat.reduceLeDiff, Nat.reduceSub, Int.reduceToNat, reduceCtorEq, ↓reduceIte, hw, List.length_nil, c0, Int.lt_irrefl, decide_false, w1]
        exact ⟨m - 1, by omega, k + 1, by omega, by rw [hgo]⟩
      · have e0 : lineOf k x = [(k + 1, wordsOf x)] := if_neg hw
        rw [e0] at hgo
        have f3 : (0 < ((wordsOf x).length : Int)) = True := eq_true (by have := List.length_pos_iff.2 hw; omega)
        simp only [go_sem, Nat.reduceAdd, Nat.reduceLT, Nat.reduceEqDiff, Nat.reduceBEq, Nat.reduceLeDiff, Nat.reduceSub, Int.reduceToNat, reduceCtorEq, ↓reduceIte, f3, decide_true, w1]
        generalize linesGo 0 (ps.take k) = L at hgo hl1
        cases L with
        | nil =>
          simp only [outAV]
          rw [avApp_nil _ _ _ _ _ _ _ (by simp) (by decide)]
          simp only [go_sem, Nat.reduceAdd, Nat.reduceLT, Nat.reduceEqDiff, Nat.reduceBEq, Nat.reduceLeDiff, Nat.reduceSub, Int.reduceToNat, reduceCtorEq, ↓reduceIte, w1]
          exact ⟨m - 1, by omega, k + 1, by omega, by rw [hgo]; rfl⟩
        | cons p L =>
          simp only [outAV]
          rw [avApp_own _ _ _ _ _ _ _ (by simp at hl1 ⊢; omega) (by decide) rfl]
          simp only [go_sem, Nat.reduceAdd, Nat.reduceLT, Nat.reduceEqDiff, Nat.reduceBEq, Nat.reduceLeDiff, Nat.reduceSub, Int.reduceToNat, reduceCtorEq, ↓reduceIte, w1]
          refine ⟨m - 1, by omega, k + 1, by omega, ?_⟩
          rw [hgo]
          simp only [List.cons_append, outAV, List.map_cons, List.map_append, List.map_nil]
          rfl
    · have f1 : ((k : Int) < (ps.length : Int)) = False := eq_false (by omega)
      rw [List.take_of_length_le (by omega)]
      generalize linesGo 0 ps = L
      simp only [go_sem, Nat.reduceAdd, Nat.reduceLT, Nat.reduceEqDiff, Nat.reduceBEq, Nat.reduceLeDiff, Nat.reduceSub, Int.reduceToNat, reduceCtorEq, ↓reduceIte, f1, decide_false]
      cases L with
      | nil => simp only [go_sem, Nat.reduceAdd, Nat.reduceLT, Nat.reduceEqDiff, Nat.reduceBEq, Nat.reduceLeDiff, Nat.reduceSub, Int.reduceToNat, reduceCtorEq, ↓reduceIte, outAV]
      | cons p L => simp only [go_sem, Nat.reduceAdd, Nat.reduceLT, Nat.reduceEqDiff, Nat.reduceBEq, Nat.reduceLeDiff, Nat.reduceSub, Int.reduceToNat, reduceCtorEq, ↓reduceIte, outAV]

end Go.Proofs.YtodnphnbnneegaaDoor.VL
