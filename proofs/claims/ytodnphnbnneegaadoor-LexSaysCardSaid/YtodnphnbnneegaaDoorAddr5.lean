/- addr.parse. -/
import Derived.Test.YtodnphnbnneegaaDoorAddr4
set_option linter.unusedVariables false
set_option linter.unusedSimpArgs false
set_option maxHeartbeats 4000000
namespace Go.Proofs.YtodnphnbnneegaaDoor.VL
open Go.RowKit Go.Proofs

/-- The bytes that parts say. -/
def pB (p0 p1 p2 p3 : ByteArray) : Nat → Nat
  | 0 => (numV p0 255).1.toNat
  | 1 => (numV p1 255).1.toNat
  | 2 => (numV p2 255).1.toNat
  | 3 => (numV p3 255).1.toNat
  | _ => 0
def cellsTo (b : Nat → Nat) (k : Nat) : List AV := [avB (if 0 < k then b 0 else 0), avB (if 1 < k then b 1 else 0), avB (if 2 < k then b 2 else 0), avB (if 3 < k then b 3 else 0)]
/-- addr.parse -/
def parseP : List ByteArray → Nat × Bool
  | [p0, p1, p2, p3] => if (numV p0 255).2 = true then if (numV p1 255).2 = true then if (numV p2 255).2 = true then if (numV p3 255).2 = true then (ofB (pB p0 p1 p2 p3) 4, true) else (0, false) else (0, false) else (0, false) else (0, false)
  | _ => (0, false)

theorem numV_ok {s : ByteArray} {most : Int} (h : (numV s most).2 = true) : 0 ≤ (numV s most).1 ∧ (numV s most).1 ≤ most ∧ s = decB (numV s most).1.toNat ∧ s.size ≤ 3 := by
  unfold numV at h ⊢
  split at h
  · cases h
  rename_i h3
  rw [if_neg h3]
  cases ha : Lib.atoiAll s.data.toList
  · rename_i v
    simp only [ha, Bool.and_eq_true, decide_eq_true_eq, beq_iff_eq] at h ⊢
    obtain ⟨h1, h2, h4⟩ := h
    refine ⟨h1, h2, ?_, by omega⟩
    rw [ByteArray.toList_eq, ByteArray.toList_eq] at h4
    have : (itoaB v).data = s.data := by rw [← Array.toList_inj]; exact h4
    cases s
    simp only [itoaB] at this
    rw [show decB v.toNat = ⟨(decB v.toNat).data⟩ from rfl, this]
  · simp [ha] at h
  · simp [ha] at h

theorem C_parse (s : ByteArray) (hs : s.size < 4294967281) : AC Tryd.prog f_addr_parse [avStr s] (.tup [avU (parseP (parts s 46)).1, .lit (.bool (parseP (parts s 46)).2)]) := by
  refine ac_addr_parse ?_ (Nat.le_add_left 1 _)
  simp only [go_sem, Nat.reduceAdd, Nat.reduceLT, Nat.reduceEqDiff, Nat.reduceBEq, Nat.reduceLeDiff, Nat.reduceSub, Int.reduceToNat, reduceCtorEq, ↓reduceIte, c_addr_parse, avStr]
  refine callX_of (C_Split s ⟨#[46]⟩ hs (by decide)) ?_
  unfold parts
  generalize Lib.splitB _ 0 _ s = ps
  by_cases h4 : ps.length = 4
  · match ps, h4 with
    | [p0, p1, p2, p3], _ =>
      simp only [go_sem, Nat.reduceAdd, Nat.reduceLT, Nat.reduceEqDiff, Nat.reduceBEq, Nat.reduceLeDiff, Nat.reduceSub, Int.reduceToNat, reduceCtorEq, ↓reduceIte, List.map_cons, List.map_nil, List.length_cons, List.length_nil, avStr, Nat.reduceAdd, c4]
      have e4 : ((4 : Int) != 4) = false := by decide
      have by8 : ∀ {p : ByteArray}, (numV p 255).2 = true → IntKind.u8.wrap (numV p 255).1 = (((numV p 255).1.toNat : Nat) : Int) := fun {p} h => by
        obtain ⟨h0, h1, _⟩ := numV_ok h
        rw [IntKind.wrap_u8]
        omega
      simp only [go_sem, Nat.reduceAdd, Nat.reduceLT, Nat.reduceEqDiff, Nat.reduceBEq, Nat.reduceLeDiff, Nat.reduceSub, Int.reduceToNat, reduceCtorEq, ↓reduceIte, avStr, c0, c1, c2, c3, c4, e4, Int.reduceSub, Int.reduceMul, Int.reduceAdd, Int.reduceLT, Int.reduceLE, Nat.reduceMul, Nat.reduceAdd, decide_true, decide_false, v0, v1, v2, v3, v4]
      refine aw_loop (fun m E => ∃ k : Nat, k + m = 4 ∧ ((0 < k → (numV p0 255).2 = true) ∧ (1 < k → (numV p1 255).2 = true) ∧ (2 < k → (numV p2 255).2 = true) ∧ (3 < k → (numV p3 255).2 = true)) ∧
        E = mkE [(5, .lp 5 0), (15, .sl .none 1 [avStr p0, avStr p1, avStr p2, avStr p3]), (16, .lit (.int .i64 4)), (17, .lit (.int .i64 (k : Nat)))] [(5, cellsTo (pB p0 p1 p2 p3) k)]) 4 ?_ ?_
      · exact ⟨0, by omega, ⟨fun h => by omega, fun h => by omega, fun h => by omega, fun h => by omega⟩, by simp only [go_sem, Nat.reduceAdd, Nat.reduceLT, Nat.reduceEqDiff, Nat.reduceBEq, Nat.reduceLeDiff, Nat.reduceSub, Int.reduceToNat, reduceCtorEq, ↓reduceIte]; rfl⟩
      · rintro m _ ⟨k, hk, ⟨g0, g1, g2, g3⟩, rfl⟩
        match k, hk with
        | 0, hk =>
          simp only [go_sem, Nat.reduceAdd, Nat.reduceLT, Nat.reduceEqDiff, Nat.reduceBEq, Nat.reduceLeDiff, Nat.reduceSub, Int.reduceToNat, reduceCtorEq, ↓reduceIte, List.getElem?_cons_zero, List.getElem?_cons_succ, cellsTo, avStr, avB, c0, c1, c2, c3, c4, e4, Int.reduceSub, Int.reduceMul, Int.reduceAdd, Int.reduceLT, Int.reduceLE, Nat.reduceMul, Nat.reduceAdd, decide_true, decide_false, v0, v1, v2, v3, v4]
          refine callX_of (C_number p0 255 (by decide)) ?_
          cases hn : (numV p0 255).2
          · have hp : parseP [p0, p1, p2, p3] = (0, false) := by simp only [parseP, hn, if_true, Bool.false_eq_true, if_false]
            simp only [go_sem, Nat.reduceAdd, Nat.reduceLT, Nat.reduceEqDiff, Nat.reduceBEq, Nat.reduceLeDiff, Nat.reduceSub, Int.reduceToNat, reduceCtorEq, ↓reduceIte, hn, hp, avU, c0]
          · have hb := by8 hn
            simp only [go_sem, Nat.reduceAdd, Nat.reduceLT, Nat.reduceEqDiff, Nat.reduceBEq, Nat.reduceLeDiff, Nat.reduceSub, Int.reduceToNat, reduceCtorEq, ↓reduceIte, hn, hb, avB, c0, c1, c2, c3, c4, e4, Int.reduceSub, Int.reduceMul, Int.reduceAdd, Int.reduceLT, Int.reduceLE, Nat.reduceMul, Nat.reduceAdd, decide_true, decide_false, v0, v1, v2, v3, v4]
            exact ⟨m - 1, by omega, 1, by omega, ⟨fun _ => trivial, fun _ => by omega, fun _ => by omega, fun _ => by omega⟩, rfl⟩
        | 1, hk =>
          simp only [go_sem, Nat.reduceAdd, Nat.reduceLT, Nat.reduceEqDiff, Nat.reduceBEq, Nat.reduceLeDiff, Nat.reduceSub, Int.reduceToNat, reduceCtorEq, ↓reduceIte, List.getElem?_cons_zero, List.getElem?_cons_succ, cellsTo, avStr, avB, c0, c1, c2, c3, c4, e4, Int.reduceSub, Int.reduceMul, Int.reduceAdd, Int.reduceLT, Int.reduceLE, Nat.reduceMul, Nat.reduceAdd, decide_true, decide_false, v0, v1, v2, v3, v4]
          refine callX_of (C_number p1 255 (by decide)) ?_
          cases hn : (numV p1 255).2
          · have hp : parseP [p0, p1, p2, p3] = (0, false) := by simp only [parseP, hn, g0 (by decide), if_true, Bool.false_eq_true, if_false]
            simp only [go_sem, Nat.reduceAdd, Nat.reduceLT, Nat.reduceEqDiff, Nat.reduceBEq, Nat.reduceLeDiff, Nat.reduceSub, Int.reduceToNat, reduceCtorEq, ↓reduceIte, hn, hp, avU, c0]
          · have hb := by8 hn
            simp only [go_sem, Nat.reduceAdd, Nat.reduceLT, Nat.reduceEqDiff, Nat.reduceBEq, Nat.reduceLeDiff, Nat.reduceSub, Int.reduceToNat, reduceCtorEq, ↓reduceIte, hn, hb, avB, c0, c1, c2, c3, c4, e4, Int.reduceSub, Int.reduceMul, Int.reduceAdd, Int.reduceLT, Int.reduceLE, Nat.reduceMul, Nat.reduceAdd, decide_true, decide_false, v0, v1, v2, v3, v4]
            exact ⟨m - 1, by omega, 2, by omega, ⟨fun _ => g0 (by decide), fun _ => trivial, fun _ => by omega, fun _ => by omega⟩, rfl⟩
        | 2, hk =>
          simp only [go_sem, Nat.reduceAdd, Nat.reduceLT, Nat.reduceEqDiff, Nat.reduceBEq, Nat.reduceLeDiff, Nat.reduceSub, Int.reduceToNat, reduceCtorEq, ↓reduceIte, List.getElem?_cons_zero, List.getElem?_cons_succ, cellsTo, avStr, avB, c0, c1, c2, c3, c4, e4, Int.reduceSub, Int.reduceMul, Int.reduceAdd, Int.reduceLT, Int.reduceLE, Nat.reduceMul, Nat.reduceAdd, decide_true, decide_false, v0, v1, v2, v3, v4]
          refine callX_of (C_number p2 255 (by decide)) ?_
          cases hn : (numV p2 255).2
          · have hp : parseP [p0, p1, p2, p3] = (0, false) := by simp only [parseP, hn, g0 (by decide), g1 (by decide), if_true, Bool.false_eq_true, if_false]
            simp only [go_sem, Nat.reduceAdd, Nat.reduceLT, Nat.reduceEqDiff, Nat.reduceBEq, Nat.reduceLeDiff, Nat.reduceSub, Int.reduceToNat, reduceCtorEq, ↓reduceIte, hn, hp, avU, c0]
          · have hb := by8 hn
            simp only [go_sem, Nat.reduceAdd, Nat.reduceLT, Nat.reduceEqDiff, Nat.reduceBEq, Nat.reduceLeDiff, Nat.reduceSub, Int.reduceToNat, reduceCtorEq, ↓reduceIte, hn, hb, avB, c0, c1, c2, c3, c4, e4, Int.reduceSub, Int.reduceMul, Int.reduceAdd, Int.reduceLT, Int.reduceLE, Nat.reduceMul, Nat.reduceAdd, decide_true, decide_false, v0, v1, v2, v3, v4]
            exact ⟨m - 1, by omega, 3, by omega, ⟨fun _ => g0 (by decide), fun _ => g1 (by decide), fun _ => trivial, fun _ => by omega⟩, rfl⟩
        | 3, hk =>
          simp only [go_sem, Nat.reduceAdd, Nat.reduceLT, Nat.reduceEqDiff, Nat.reduceBEq, Nat.reduceLeDiff, Nat.reduceSub, Int.reduceToNat, reduceCtorEq, ↓reduceIte, List.getElem?_cons_zero, List.getElem?_cons_succ, cellsTo, avStr, avB, c0, c1, c2, c3, c4, e4, Int.reduceSub, Int.reduceMul, Int.reduceAdd, Int.reduceLT, Int.reduceLE, Nat.reduceMul, Nat.reduceAdd, decide_true, decide_false, v0, v1, v2, v3, v4]
          refine callX_of (C_number p3 255 (by decide)) ?_
          cases hn : (numV p3 255).2
          · have hp : parseP [p0, p1, p2, p3] = (0, false) := by simp only [parseP, hn, g0 (by decide), g1 (by decide), g2 (by decide), if_true, Bool.false_eq_true, if_false]
            simp only [go_sem, Nat.reduceAdd, Nat.reduceLT, Nat.reduceEqDiff, Nat.reduceBEq, Nat.reduceLeDiff, Nat.reduceSub, Int.reduceToNat, reduceCtorEq, ↓reduceIte, hn, hp, avU, c0]
          · have hb := by8 hn
            simp only [go_sem, Nat.reduceAdd, Nat.reduceLT, Nat.reduceEqDiff, Nat.reduceBEq, Nat.reduceLeDiff, Nat.reduceSub, Int.reduceToNat, reduceCtorEq, ↓reduceIte, hn, hb, avB, c0, c1, c2, c3, c4, e4, Int.reduceSub, Int.reduceMul, Int.reduceAdd, Int.reduceLT, Int.reduceLE, Nat.reduceMul, Nat.reduceAdd, decide_true, decide_false, v0, v1, v2, v3, v4]
            exact ⟨m - 1, by omega, 4, by omega, ⟨fun _ => g0 (by decide), fun _ => g1 (by decide), fun _ => g2 (by decide), fun _ => trivial⟩, rfl⟩
        | 4, hk =>
          have hp : parseP [p0, p1, p2, p3] = (ofB (pB p0 p1 p2 p3) 4, true) := by simp only [parseP, g0 (by decide), g1 (by decide), g2 (by decide), g3 (by decide), if_true]
          have hz : ∀ i, i < 4 → pB p0 p1 p2 p3 i < 256 := by
            intro i hi
            match i, hi with
            | 0, _ => have := numV_ok (g0 (by decide)); simp only [pB]; omega
            | 1, _ => have := numV_ok (g1 (by decide)); simp only [pB]; omega
            | 2, _ => have := numV_ok (g2 (by decide)); simp only [pB]; omega
            | 3, _ => have := numV_ok (g3 (by decide)); simp only [pB]; omega
          simp only [go_sem, Nat.reduceAdd, Nat.reduceLT, Nat.reduceEqDiff, Nat.reduceBEq, Nat.reduceLeDiff, Nat.reduceSub, Int.reduceToNat, reduceCtorEq, ↓reduceIte, List.getElem?_cons_zero, List.getElem?_cons_succ, cellsTo, avStr, avB, c0, c1, c2, c3, c4, e4, Int.reduceSub, Int.reduceMul, Int.reduceAdd, Int.reduceLT, Int.reduceLE, Nat.reduceMul, Nat.reduceAdd, decide_true, decide_false, v0, v1, v2, v3, v4]
          refine callX_of (C_Of _ hz) ?_
          simp only [go_sem, Nat.reduceAdd, Nat.reduceLT, Nat.reduceEqDiff, Nat.reduceBEq, Nat.reduceLeDiff, Nat.reduceSub, Int.reduceToNat, reduceCtorEq, ↓reduceIte, hp, avU]
        | k + 5, hk => omega
  · have e : ((ps.length : Int) != 4) = true := by simp only [bne_iff_ne, ne_eq]; omega
    have hp : parseP ps = (0, false) := by
      unfold parseP
      split
      · exact absurd rfl h4
      · rfl
    simp only [go_sem, Nat.reduceAdd, Nat.reduceLT, Nat.reduceEqDiff, Nat.reduceBEq, Nat.reduceLeDiff, Nat.reduceSub, Int.reduceToNat, reduceCtorEq, ↓reduceIte, List.length_map, e, hp, avU]
    try rfl

end Go.Proofs.YtodnphnbnneegaaDoor.VL
