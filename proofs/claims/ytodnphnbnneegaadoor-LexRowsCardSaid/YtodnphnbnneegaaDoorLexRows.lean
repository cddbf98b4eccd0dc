/- rivuletlaw5.LexRows: the walk. -/
import Derived.Test.YtodnphnbnneegaaDoorRowsLaw2
import Derived.Test.YtodnphnbnneegaaDoorAddr2
import Derived.Test.YtodnphnbnneegaaDoorLex3
set_option linter.unusedVariables false
set_option linter.unusedSimpArgs false
set_option maxHeartbeats 8000000
namespace Go.Proofs.YtodnphnbnneegaaDoor.VL
open Go.RowKit Go.Proofs

theorem avBin_sT (t : TypeId) (a b : List UInt8) (h : a.length + b.length < 9223372036854775807) : avBin .add t (.lit (.string (toB a))) (.lit (.string (toB b))) = some (.lit (.string (toB (a ++ b)))) := by
  have h1 : (toB a).size = a.length := by rw [Lib.size_eq, data_toB]
  have h2 : (toB b).size = b.length := by rw [Lib.size_eq, data_toB]
  have h' : ¬ (9223372036854775807 : Int) < ((toB a).size : Int) + ((toB b).size : Int) := by omega
  have e : toB a ++ toB b = toB (a ++ b) := by
    rw [← toB_data (toB a ++ toB b)]
    simp [ByteArray.data_append, toB]
  simp [avBin, binOp, Op.stringOp, p0, Pure.pure, h', e]

theorem wordsL_succ (i k : Nat) : wordsL i (k + 1) = wordsL i k ++ [wordL i k] := by
  simp [wordsL, List.range_succ]
theorem textL_app (g : List UInt8) (q : Nat × Nat) : ∀ (rs : List (Nat × Nat)) (i : Nat), textL g i (rs ++ [q]) = textL g i rs ++ (lineL g (i + rs.length) q.1 q.2 ++ [10])
  | [], i => by simp [textL]
  | p :: rs, i => by
    rw [List.cons_append, textL, textL_app g q rs (i + 1), textL, List.length_cons, show i + 1 + rs.length = i + (rs.length + 1) by omega]
    simp
theorem wantL_app (q : Nat × Nat) : ∀ (rs : List (Nat × Nat)) (i : Nat), wantL i (rs ++ [q]) = wantL i rs ++ wordsL (i + rs.length) q.1
  | [], i => by simp [wantL]
  | p :: rs, i => by
    rw [List.cons_append, wantL, wantL_app q rs (i + 1), wantL, List.length_cons, show i + 1 + rs.length = i + (rs.length + 1) by omega, List.append_assoc]

theorem dec1 (d : Nat) (h : d < 10) : (Lib.decDigits d).length = 1 := by rw [Lib.decDigits, dif_pos h]; rfl
theorem gap_len (b : Nat) : (gapL b).length ≤ 4 := by
  match b with
  | 0 => decide
  | 1 => decide
  | 2 => decide
  | b + 3 => show ([32, 13] : List UInt8).length ≤ 4; decide
theorem tail_len (b t : Nat) : (tailL (gapL b) t).length ≤ 14 := by
  match t with
  | 0 => show ([] : List UInt8).length ≤ 14; decide
  | 1 => show ([32, 35, 32, 110, 111, 116, 101, 32, 35, 32, 109, 111, 114, 101] : List UInt8).length ≤ 14; decide
  | 2 => show ([35, 120] : List UInt8).length ≤ 14; decide
  | t + 3 => exact Nat.le_trans (gap_len b) (by decide)
theorem body_len (b i : Nat) (hi : i < 10) : ∀ n, n ≤ 6 → (bodyW (gapL b) (wordsL i n)).length ≤ 7 * n
  | 0, _ => by simp [wordsL, bodyW]
  | n + 1, h => by
    have h1 := body_len b i hi n (by omega)
    have h2 := gap_len b
    rw [wordsL_succ, bodyW_app]
    simp only [List.length_append, wordL, List.length_cons, dec1 i hi, dec1 n (by omega)]
    omega
theorem text_len' (b : Nat) : ∀ (rows : List (Nat × Nat)) (i : Nat), i + rows.length ≤ 10 → (∀ q ∈ rows, q.1 ≤ 6) → (textL (gapL b) i rows).length ≤ 60 * rows.length
  | [], _, _, _ => by simp [textL]
  | q :: r, i, h, hq => by
    simp only [List.length_cons] at h
    have h1 := text_len' b r (i + 1) (by omega) fun x hx => hq x (List.mem_cons_of_mem _ hx)
    have h2 := body_len b i (by omega) q.1 (hq q List.mem_cons_self)
    have h3 := tail_len b q.2
    have h4 := hq q List.mem_cons_self
    simp only [textL, lineL, List.length_append, List.length_cons]
    omega
theorem want_len : ∀ (rows : List (Nat × Nat)) (i : Nat), (∀ q ∈ rows, q.1 ≤ 6) → (wantL i rows).length ≤ 6 * rows.length
  | [], _, _ => by simp [wantL]
  | q :: r, i, hq => by
    have h1 := want_len r (i + 1) fun x hx => hq x (List.mem_cons_of_mem _ hx)
    have h2 := hq q List.mem_cons_self
    simp only [wantL, List.length_append, wordsL, List.length_map, List.length_range, List.length_cons]
    omega

def rowOf (x : Int) : Nat × Nat := ((x % 6).toNat, (IntKind.i64.wrap (x.tdiv 6) % 4).toNat)
theorem rowOf_le (x : Int) : (rowOf x).1 ≤ 6 := by simp only [rowOf]; have := Int.emod_lt_of_pos x (show (0 : Int) < 6 by decide); omega

/-- Texts told as a list that the call has made itself. -/
def tAV (d : List Nat) (ws : List (List UInt8)) : AV := match ws with
  | [] => .sl .nil 0 []
  | w :: r => .sl (.own d) 1 ((w :: r).map fun w => avStr (toB w))
def avI64 (n : Int) : AV := .lit (.int .i64 n)

def tBV (d : List Nat) (ws : List ByteArray) : AV := match ws with
  | [] => .sl .nil 0 []
  | w :: r => .sl (.own d) 1 ((w :: r).map avStr)

theorem flat_len : ∀ (L : List (Nat × List ByteArray)), (∀ p ∈ L, p.2 ≠ []) → L.length ≤ (L.flatMap fun p => p.2).length
  | [], _ => by simp
  | p :: L, h => by
    have h1 := flat_len L fun q hq => h q (List.mem_cons_of_mem _ hq)
    have h2 := List.length_pos_iff.2 (h p List.mem_cons_self)
    simp only [List.flatMap_cons, List.length_append, List.length_cons]
    omega
theorem wrap_pred (k : Nat) (h : 0 < k) (h2 : k ≤ 9223372036854775807) : IntKind.i64.wrap ((k : Int) - 1) = ((k - 1 : Nat) : Int) := by
  have e : (k : Int) - 1 = ((k - 1 : Nat) : Int) := by omega
  rw [e]
  exact wrap_nat (k - 1) (by omega)

theorem AC_LexRows (l : List Int) (by0 : Int) : AC Tryd.prog f_rivuletlaw5_LexRows [.sl .none 1 (l.map avI64), .lit (.int .i64 by0)] (.lit (.bool true)) := by
  refine ac_rivuletlaw5_LexRows ?_ (Nat.le_add_left 2 _)
  simp only [go_sem, Nat.reduceAdd, Nat.reduceLT, Nat.reduceEqDiff, Nat.reduceBEq, Nat.reduceLeDiff, Nat.reduceSub, Int.reduceToNat, reduceCtorEq, ↓reduceIte, c_rivuletlaw5_LexRows]
  refine callX_of C_first5 ?_
  by_cases h10 : 10 < l.length
  · have e : ((10 : Int) < (l.length : Int)) = True := eq_true (by omega)
    simp only [go_sem, Nat.reduceAdd, Nat.reduceLT, Nat.reduceEqDiff, Nat.reduceBEq, Nat.reduceLeDiff, Nat.reduceSub, Int.reduceToNat, reduceCtorEq, ↓reduceIte, List.length_map, e, decide_true]
  have e10 : ((10 : Int) < (l.length : Int)) = False := eq_false (by omega)
  simp only [go_sem, Nat.reduceAdd, Nat.reduceLT, Nat.reduceEqDiff, Nat.reduceBEq, Nat.reduceLeDiff, Nat.reduceSub, Int.reduceToNat, reduceCtorEq, ↓reduceIte, List.length_map, e10, decide_false]
  refine callX_of (C_Number by0 4 (by decide) (by decide)) ?_
  have e0 := Int.emod_nonneg by0 (show (4 : Int) ≠ 0 by decide)
  have e1 := Int.emod_lt_of_pos by0 (show (0 : Int) < 4 by decide)
  obtain ⟨b, hb, hb4⟩ : ∃ b : Nat, by0 % 4 = (b : Int) ∧ b < 4 := ⟨(by0 % 4).toNat, by omega, by omega⟩
  have k0 : (0 ≤ (b : Int)) = True := eq_true (by omega)
  have hgap : ([.lit (.string ⟨#[32]⟩), .lit (.string ⟨#[9]⟩), .lit (.string ⟨#[32, 32, 9, 32]⟩), .lit (.string ⟨#[32, 13]⟩)] : List AV)[b]? = some (.lit (.string (toB (gapL b)))) := by
    match b, hb4 with
    | 0, _ => rfl
    | 1, _ => rfl
    | 2, _ => rfl
    | 3, _ => rfl
    | b + 4, h => omega
  simp only [go_sem, Nat.reduceAdd, Nat.reduceLT, Nat.reduceEqDiff, Nat.reduceBEq, Nat.reduceLeDiff, Nat.reduceSub, Int.reduceToNat, reduceCtorEq, ↓reduceIte, hb, k0, hgap, Int.toNat_natCast]
  have hrl : ∀ q ∈ l.map rowOf, q.1 ≤ 6 := fun q hq => by
    obtain ⟨x, _, rfl⟩ := List.mem_map.1 hq
    exact rowOf_le x
  refine aw_loop (fun m E => ∃ i : Nat, i + m = l.length ∧ E = mkE [(0, .sl .none 1 (l.map avI64)), (6, .lit (.string (toB (textL (gapL b) 0 ((l.map rowOf).take i))))), (7, tAV [61] (wantL 0 ((l.map rowOf).take i))), (8, .lit (.string (toB (gapL b)))), (9, .lit (.int .i64 (i : Nat)))] []) l.length ?_ ?_
  · exact ⟨0, by omega, by simp only [go_sem, Nat.reduceAdd, Nat.reduceLT, Nat.reduceEqDiff, Nat.reduceBEq, Nat.reduceLeDiff, Nat.reduceSub, Int.reduceToNat, reduceCtorEq, ↓reduceIte]; rfl⟩
  · rintro m _ ⟨i, hi, rfl⟩
    have w1 := wrap_succ i (by omega)
    by_cases hil : i < l.length
    · have f1 : ((i : Int) < (l.length : Int)) = True := eq_true (by omega)
      have f2 : (0 ≤ (i : Int)) = True := eq_true (by omega)
      obtain ⟨x, hx⟩ : ∃ x, l[i]? = some x := ⟨l[i], List.getElem?_eq_getElem hil⟩
      have hg : (l.map avI64)[i]? = some (avI64 x) := by rw [List.getElem?_map, hx]; rfl
      have hrow : (l.map rowOf).take (i + 1) = (l.map rowOf).take i ++ [rowOf x] := by rw [List.take_add_one, List.getElem?_map, hx]; rfl
      have hT := text_len' b ((l.map rowOf).take i) 0 (by simp; omega) fun q hq => hrl q (List.mem_of_mem_take hq)
      have hW := want_len ((l.map rowOf).take i) 0 fun q hq => hrl q (List.mem_of_mem_take hq)
      have hTn := textL_app (gapL b) (rowOf x) ((l.map rowOf).take i) 0
      have hWn := wantL_app (rowOf x) ((l.map rowOf).take i) 0
      rw [← hrow] at hTn hWn
      have htl : ((l.map rowOf).take i).length = i := by simp; omega
      rw [htl] at hT hW hTn hWn
      rw [Nat.zero_add] at hTn hWn
      generalize hT' : textL (gapL b) 0 ((l.map rowOf).take (i + 1)) = T' at hTn
      generalize hW' : wantL 0 ((l.map rowOf).take (i + 1)) = W' at hWn
      generalize textL (gapL b) 0 ((l.map rowOf).take i) = T at hT hTn
      generalize wantL 0 ((l.map rowOf).take i) = W at hW hWn
      have n0 := Int.emod_nonneg x (show (6 : Int) ≠ 0 by decide)
      have n1 := Int.emod_lt_of_pos x (show (0 : Int) < 6 by decide)
      obtain ⟨n, hn, hn6⟩ : ∃ n : Nat, x % 6 = (n : Int) ∧ n < 6 := ⟨(x % 6).toNat, by omega, by omega⟩
      have t0 := Int.emod_nonneg (IntKind.i64.wrap (x.tdiv 6)) (show (4 : Int) ≠ 0 by decide)
      have t1 := Int.emod_lt_of_pos (IntKind.i64.wrap (x.tdiv 6)) (show (0 : Int) < 4 by decide)
      obtain ⟨t, ht, ht4⟩ : ∃ t : Nat, IntKind.i64.wrap (x.tdiv 6) % 4 = (t : Int) ∧ t < 4 := ⟨(IntKind.i64.wrap (x.tdiv 6) % 4).toNat, by omega, by omega⟩
      have hro : rowOf x = (n, t) := by simp only [rowOf, hn, ht, Int.toNat_natCast]
      rw [hro] at hTn hWn
      simp only at hTn hWn
      have hgl := gap_len b
      simp only [go_sem, Nat.reduceAdd, Nat.reduceLT, Nat.reduceEqDiff, Nat.reduceBEq, Nat.reduceLeDiff, Nat.reduceSub, Int.reduceToNat, reduceCtorEq, ↓reduceIte, List.length_map, f1, f2, hg, decide_true, Int.toNat_natCast, avI64]
      refine callX_of (C_Number x 6 (by decide) (by decide)) ?_
      simp only [go_sem, Nat.reduceAdd, Nat.reduceLT, Nat.reduceEqDiff, Nat.reduceBEq, Nat.reduceLeDiff, Nat.reduceSub, Int.reduceToNat, reduceCtorEq, ↓reduceIte, hn]
      refine aw_loop (fun m' E => ∃ k : Nat, k + m' = n ∧ E = mkE [(0, .sl .none 1 (l.map avI64)), (6, .lit (.string (toB (T ++ bodyW (gapL b) (wordsL i k))))), (7, tAV [61] (W ++ wordsL i k)), (8, .lit (.string (toB (gapL b)))), (9, .lit (.int .i64 (i : Nat))), (10, .lit (.int .i64 (n : Nat))), (11, .lit (.int .i64 (k : Nat)))] []) n ?_ ?_
      · exact ⟨0, by omega, by simp only [go_sem, Nat.reduceAdd, Nat.reduceLT, Nat.reduceEqDiff, Nat.reduceBEq, Nat.reduceLeDiff, Nat.reduceSub, Int.reduceToNat, reduceCtorEq, ↓reduceIte, wordsL, List.range_zero, List.map_nil, bodyW, List.append_nil]; rfl⟩
      · rintro m' _ ⟨k, hk, rfl⟩
        have hbl := body_len b i (by omega) k (by omega)
        by_cases hkn : k < n
        · have g1 : ((k : Int) < (n : Int)) = True := eq_true (by omega)
          have w2 := wrap_succ k (by omega)
          have hNi := C_Num i (by omega)
          have hNk := C_Num k (by omega)
          have li := dec1 i (by omega)
          have lk := dec1 k (by omega)
          have a1 := avBin_sT 9 (T ++ bodyW (gapL b) (wordsL i k)) (gapL b) (by simp only [List.length_append]; omega)
          have a2 : avBin .add 9 (.lit (.string (toB (T ++ bodyW (gapL b) (wordsL i k) ++ gapL b)))) (.lit (.string ⟨#[119]⟩)) = _ := avBin_sT 9 (T ++ bodyW (gapL b) (wordsL i k) ++ gapL b) [119] (by simp only [List.length_append, List.length_cons, List.length_nil]; omega)
          have a3 : avBin .add 9 (.lit (.string (toB (T ++ bodyW (gapL b) (wordsL i k) ++ gapL b ++ [119])))) (.lit (.string (decB i))) = _ := avBin_sT 9 _ (Lib.decDigits i) (by simp only [List.length_append, List.length_cons, List.length_nil]; omega)
          have a4 : avBin .add 9 (.lit (.string (toB (T ++ bodyW (gapL b) (wordsL i k) ++ gapL b ++ [119] ++ Lib.decDigits i)))) (.lit (.string (decB k))) = _ := avBin_sT 9 _ (Lib.decDigits k) (by simp only [List.length_append, List.length_cons, List.length_nil]; omega)
          have a5 : avBin .add 9 (.lit (.string ⟨#[119]⟩)) (.lit (.string (decB i))) = some (.lit (.string (toB (119 :: Lib.decDigits i)))) := avBin_sT 9 [119] (Lib.decDigits i) (by simp only [List.length_cons, List.length_nil]; omega)
          have a6 : avBin .add 9 (.lit (.string (toB (119 :: Lib.decDigits i)))) (.lit (.string (decB k))) = some (.lit (.string (toB (wordL i k)))) := avBin_sT 9 (119 :: Lib.decDigits i) (Lib.decDigits k) (by simp only [List.length_append, List.length_cons, List.length_nil]; omega)
          have hTk : T ++ bodyW (gapL b) (wordsL i k) ++ gapL b ++ [119] ++ Lib.decDigits i ++ Lib.decDigits k = T ++ bodyW (gapL b) (wordsL i (k + 1)) := by
            rw [wordsL_succ, bodyW_app, wordL]
            simp
          rw [hTk] at a4
          have hWk : W ++ wordsL i (k + 1) = (W ++ wordsL i k) ++ [wordL i k] := by rw [wordsL_succ, List.append_assoc]
          have hwl : (W ++ wordsL i k).length ≤ 100 := by simp [wordsL]; omega
          simp only [avStr] at hNi hNk
          simp only [go_sem, Nat.reduceAdd, Nat.reduceLT, Nat.reduceEqDiff, Nat.reduceBEq, Nat.reduceLeDiff, Nat.reduceSub, Int.reduceToNat, reduceCtorEq, ↓reduceIte, g1, decide_true, a1, a2]
          refine callX_of hNi ?_
          simp only [go_sem, Nat.reduceAdd, Nat.reduceLT, Nat.reduceEqDiff, Nat.reduceBEq, Nat.reduceLeDiff, Nat.reduceSub, Int.reduceToNat, reduceCtorEq, ↓reduceIte, a3]
          refine callX_of hNk ?_
          simp only [go_sem, Nat.reduceAdd, Nat.reduceLT, Nat.reduceEqDiff, Nat.reduceBEq, Nat.reduceLeDiff, Nat.reduceSub, Int.reduceToNat, reduceCtorEq, ↓reduceIte, a4]
          refine callX_of hNi ?_
          simp only [go_sem, Nat.reduceAdd, Nat.reduceLT, Nat.reduceEqDiff, Nat.reduceBEq, Nat.reduceLeDiff, Nat.reduceSub, Int.reduceToNat, reduceCtorEq, ↓reduceIte, a5]
          refine callX_of hNk ?_
          simp only [go_sem, Nat.reduceAdd, Nat.reduceLT, Nat.reduceEqDiff, Nat.reduceBEq, Nat.reduceLeDiff, Nat.reduceSub, Int.reduceToNat, reduceCtorEq, ↓reduceIte, a6]
          generalize W ++ wordsL i k = WW at hWk hwl
          cases WW with
          | nil =>
            simp only [tAV]
            rw [avApp_nil _ _ _ _ _ _ _ (by simp) (by decide)]
            simp only [go_sem, Nat.reduceAdd, Nat.reduceLT, Nat.reduceEqDiff, Nat.reduceBEq, Nat.reduceLeDiff, Nat.reduceSub, Int.reduceToNat, reduceCtorEq, ↓reduceIte, w2]
            exact ⟨m' - 1, by omega, k + 1, by omega, by rw [hWk]; rfl⟩
          | cons u us =>
            simp only [tAV]
            rw [avApp_own _ _ _ _ _ _ _ (by simp at hwl ⊢; omega) (by decide) rfl]
            simp only [go_sem, Nat.reduceAdd, Nat.reduceLT, Nat.reduceEqDiff, Nat.reduceBEq, Nat.reduceLeDiff, Nat.reduceSub, Int.reduceToNat, reduceCtorEq, ↓reduceIte, w2]
            refine ⟨m' - 1, by omega, k + 1, by omega, ?_⟩
            rw [hWk]
            simp only [List.cons_append, tAV, List.map_cons, List.map_append, List.map_nil]
            rfl
        · have g1 : ((k : Int) < (n : Int)) = False := eq_false (by omega)
          obtain rfl : n = k := by omega
          have k0' : (0 ≤ (t : Int)) = True := eq_true (by omega)
          have hb6 := body_len b i (by omega) n (by omega)
          have htl := tail_len b t
          have htail : ([.lit (.string ⟨#[]⟩), .lit (.string ⟨#[32, 35, 32, 110, 111, 116, 101, 32, 35, 32, 109, 111, 114, 101]⟩), .lit (.string ⟨#[35, 120]⟩), .lit (.string (toB (gapL b)))] : List AV)[t]? = some (.lit (.string (toB (tailL (gapL b) t)))) := by
            match t, ht4 with
            | 0, _ => rfl
            | 1, _ => rfl
            | 2, _ => rfl
            | 3, _ => rfl
            | t + 4, h => omega
          have q6 : ((6 : Int) == 0) = false := by decide
          have c1' := avBin_sT 9 (T ++ bodyW (gapL b) (wordsL i n)) (tailL (gapL b) t) (by simp only [List.length_append]; omega)
          have c2' : avBin .add 9 (.lit (.string (toB (T ++ bodyW (gapL b) (wordsL i n) ++ tailL (gapL b) t)))) (.lit (.string ⟨#[10]⟩)) = _ := avBin_sT 9 _ [10] (by simp only [List.length_append, List.length_cons, List.length_nil]; omega)
          have hT2 : T ++ bodyW (gapL b) (wordsL i n) ++ tailL (gapL b) t ++ [10] = T' := by
            rw [hTn, lineL]
            simp
          rw [hT2] at c2'
          rw [← hWn]
          simp only [go_sem, Nat.reduceAdd, Nat.reduceLT, Nat.reduceEqDiff, Nat.reduceBEq, Nat.reduceLeDiff, Nat.reduceSub, Int.reduceToNat, reduceCtorEq, ↓reduceIte, g1, decide_false, f2, hg, Int.toNat_natCast, avI64, q6]
          refine callX_of (C_Number (IntKind.i64.wrap (x.tdiv 6)) 4 (by decide) (by decide)) ?_
          simp only [go_sem, Nat.reduceAdd, Nat.reduceLT, Nat.reduceEqDiff, Nat.reduceBEq, Nat.reduceLeDiff, Nat.reduceSub, Int.reduceToNat, reduceCtorEq, ↓reduceIte, ht, k0', Int.toNat_natCast, htail, c1', c2', w1]
          refine ⟨m - 1, by omega, i + 1, by omega, ?_⟩
          rw [hT', hW']
    · have f1 : ((i : Int) < (l.length : Int)) = False := eq_false (by omega)
      rw [List.take_of_length_le (by simp; omega)]
      have hTl := text_len' b (l.map rowOf) 0 (by simp; omega) hrl
      obtain ⟨r1, r2, r3⟩ := rows_lines b (l.map rowOf)
      have hL := C_Lines (toB (textL (gapL b) 0 (l.map rowOf))) (by
        rw [Lib.size_eq, data_toB]
        simp only [List.length_map] at hTl
        omega)
      have hWl := want_len (l.map rowOf) 0 hrl
      rw [List.length_map] at r1 hWl
      generalize textL (gapL b) 0 (l.map rowOf) = T at hL hTl r1 r2 r3 ⊢
      generalize wantL 0 (l.map rowOf) = W at r3 hWl ⊢
      generalize linesV (toB T) = L at hL r1 r2 r3
      simp only [go_sem, Nat.reduceAdd, Nat.reduceLT, Nat.reduceEqDiff, Nat.reduceBEq, Nat.reduceLeDiff, Nat.reduceSub, Int.reduceToNat, reduceCtorEq, ↓reduceIte, List.length_map, f1, decide_false]
      refine callX_of hL ?_
      simp only [go_sem, Nat.reduceAdd, Nat.reduceLT, Nat.reduceEqDiff, Nat.reduceBEq, Nat.reduceLeDiff, Nat.reduceSub, Int.reduceToNat, reduceCtorEq, ↓reduceIte]
      cases L with
      | nil =>
        have hW0 : W = [] := by cases W with
          | nil => rfl
          | cons w ws => simp at r3
        subst hW0
        have hS := C_SameTexts (.sl .nil 0 []) (.sl .nil 0 []) [] [] (.inr ⟨rfl, rfl⟩) (.inr ⟨rfl, rfl⟩) (by decide)
        rw [decide_eq_true rfl] at hS
        simp only [outAV, tAV, go_sem, Nat.reduceAdd, Nat.reduceLT, Nat.reduceEqDiff, Nat.reduceBEq, Nat.reduceLeDiff, Nat.reduceSub, Int.reduceToNat, reduceCtorEq, ↓reduceIte]
        refine aw_loop (fun m E => E = mkE [(0, .sl .none 1 (l.map avI64)), (7, .sl .nil 0 []), (12, .sl .nil 0 []), (13, .lit .nilIface), (14, .sl .nil 0 []), (15, .lit (.int .i64 0))] []) 0 ?_ ?_
        · rfl
        · rintro m' _ rfl
          have g1 : ((0 : Int) < ((0 : Nat) : Int)) = False := eq_false (by decide)
          simp only [go_sem, Nat.reduceAdd, Nat.reduceLT, Nat.reduceEqDiff, Nat.reduceBEq, Nat.reduceLeDiff, Nat.reduceSub, Int.reduceToNat, reduceCtorEq, ↓reduceIte, List.length_nil, g1, decide_false]
          refine callX_of hS ?_
          simp only [go_sem, Nat.reduceAdd, Nat.reduceLT, Nat.reduceEqDiff, Nat.reduceBEq, Nat.reduceLeDiff, Nat.reduceSub, Int.reduceToNat, reduceCtorEq, ↓reduceIte]
      | cons p0 ps =>
        simp only [outAV, go_sem, Nat.reduceAdd, Nat.reduceLT, Nat.reduceEqDiff, Nat.reduceBEq, Nat.reduceLeDiff, Nat.reduceSub, Int.reduceToNat, reduceCtorEq, ↓reduceIte]
        rw [show avLine p0 :: List.map avLine ps = (p0 :: ps).map avLine from rfl]
        clear hL
        generalize p0 :: ps = L at r1 r2 r3 ⊢
        have hfl := flat_len L fun p h => (r1 p h).2.2
        rw [r3, List.length_map] at hfl
        refine aw_loop (fun m E => ∃ k : Nat, k + m = L.length ∧ E = mkE [(0, .sl .none 1 (l.map avI64)), (7, tAV [61] W), (12, .sl (.own [77, 37]) 2 (L.map avLine)), (13, .lit .nilIface), (14, tBV [135] ((L.take k).flatMap fun p => p.2)), (15, .lit (.int .i64 (k : Nat)))] []) L.length ?_ ?_
        · exact ⟨0, by omega, by simp only [go_sem, Nat.reduceAdd, Nat.reduceLT, Nat.reduceEqDiff, Nat.reduceBEq, Nat.reduceLeDiff, Nat.reduceSub, Int.reduceToNat, reduceCtorEq, ↓reduceIte, List.take_zero, List.flatMap_nil, tBV]; rfl⟩
        · rintro m' _ ⟨k, hk, rfl⟩
          by_cases hkl : k < L.length
          · have g1 : ((k : Int) < (L.length : Int)) = True := eq_true (by omega)
            have g2 : (0 ≤ (k : Int)) = True := eq_true (by omega)
            obtain ⟨p, hp⟩ : ∃ p, L[k]? = some p := ⟨L[k], List.getElem?_eq_getElem hkl⟩
            have hg : (L.map avLine)[k]? = some (avLine p) := by rw [List.getElem?_map, hp]; rfl
            have w3 := wrap_succ k (by omega)
            obtain ⟨p1, p2, p3⟩ := r1 p (List.mem_of_getElem? hp)
            have hpl := List.length_pos_iff.2 p3
            have c1 : ((p.2.length : Int) == 0) = false := by simp; exact p3
            have c2 : ((p.1 : Int) < 1) = False := eq_false (by omega)
            have c3 : ((l.length : Int) < (p.1 : Int)) = False := eq_false (by omega)
            have hft : (L.take (k + 1)).flatMap (fun p => p.2) = (L.take k).flatMap (fun p => p.2) ++ p.2 := by
              rw [List.take_add_one, hp, List.flatMap_append]
              simp
            have hG : ((L.take k).flatMap fun p => p.2).length + p.2.length ≤ 60 := by
              have e : ((L.take (k + 1)).flatMap (fun p => p.2)).length ≤ (L.flatMap fun p => p.2).length := by
                conv => rhs; rw [← List.take_append_drop (k + 1) L]
                rw [List.flatMap_append, List.length_append]
                omega
              rw [hft, r3, List.length_append, List.length_map] at e
              omega
            by_cases hk0 : k = 0
            · have c4 : ((0 : Int) < (k : Int)) = False := eq_false (by omega)
              simp only [go_sem, Nat.reduceAdd, Nat.reduceLT, Nat.reduceEqDiff, Nat.reduceBEq, Nat.reduceLeDiff, Nat.reduceSub, Int.reduceToNat, reduceCtorEq, ↓reduceIte, List.length_map, g1, g2, decide_true, decide_false, Int.toNat_natCast, hg, avLine, c1, c2, c3, c4]
              generalize (L.take k).flatMap (fun p => p.2) = G at hft hG
              cases G with
              | nil =>
                simp only [tBV]
                rw [avApp_nil _ _ _ _ _ _ _ (by simp only [List.length_map]; omega) (by decide)]
                simp only [go_sem, Nat.reduceAdd, Nat.reduceLT, Nat.reduceEqDiff, Nat.reduceBEq, Nat.reduceLeDiff, Nat.reduceSub, Int.reduceToNat, reduceCtorEq, ↓reduceIte, w3]
                refine ⟨m' - 1, by omega, k + 1, by omega, ?_⟩
                rw [hft, List.nil_append]
                cases hp2 : p.2 with
                | nil => exact absurd hp2 p3
                | cons u us => rfl
              | cons u us =>
                simp only [tBV]
                rw [avApp_own _ _ _ _ _ _ _ (by simp only [List.length_map]; omega) (by decide) rfl]
                simp only [go_sem, Nat.reduceAdd, Nat.reduceLT, Nat.reduceEqDiff, Nat.reduceBEq, Nat.reduceLeDiff, Nat.reduceSub, Int.reduceToNat, reduceCtorEq, ↓reduceIte, w3]
                refine ⟨m' - 1, by omega, k + 1, by omega, ?_⟩
                rw [hft]
                simp only [List.cons_append, tBV, List.map_cons, List.map_append]
                cases W <;> rfl
            · have c4 : ((0 : Int) < (k : Int)) = True := eq_true (by omega)
              have w4 := wrap_pred k (by omega) (by omega)
              have g3 : (0 ≤ ((k - 1 : Nat) : Int)) = True := eq_true (by omega)
              obtain ⟨q, hq⟩ : ∃ q, L[k - 1]? = some q := ⟨L[k - 1], List.getElem?_eq_getElem (by omega)⟩
              have hg' : (L.map avLine)[k - 1]? = some (avLine q) := by rw [List.getElem?_map, hq]; rfl
              have hlt : q.1 < p.1 := by
                have := List.pairwise_iff_getElem.1 r2 (k - 1) k (by omega) hkl (by omega)
                rw [List.getElem?_eq_getElem hkl] at hp
                rw [List.getElem?_eq_getElem (by omega)] at hq
                cases hp; cases hq
                exact this
              have c5 : ((p.1 : Int) ≤ (q.1 : Int)) = False := eq_false (by omega)
              simp only [go_sem, Nat.reduceAdd, Nat.reduceLT, Nat.reduceEqDiff, Nat.reduceBEq, Nat.reduceLeDiff, Nat.reduceSub, Int.reduceToNat, reduceCtorEq, ↓reduceIte, List.length_map, g1, g2, decide_true, decide_false, Int.toNat_natCast, hg, avLine, c1, c2, c3, c4, w4, g3, hg', c5]
              generalize (L.take k).flatMap (fun p => p.2) = G at hft hG
              cases G with
              | nil =>
                simp only [tBV]
                rw [avApp_nil _ _ _ _ _ _ _ (by simp only [List.length_map]; omega) (by decide)]
                simp only [go_sem, Nat.reduceAdd, Nat.reduceLT, Nat.reduceEqDiff, Nat.reduceBEq, Nat.reduceLeDiff, Nat.reduceSub, Int.reduceToNat, reduceCtorEq, ↓reduceIte, w3]
                refine ⟨m' - 1, by omega, k + 1, by omega, ?_⟩
                rw [hft, List.nil_append]
                cases hp2 : p.2 with
                | nil => exact absurd hp2 p3
                | cons u us => rfl
              | cons u us =>
                simp only [tBV]
                rw [avApp_own _ _ _ _ _ _ _ (by simp only [List.length_map]; omega) (by decide) rfl]
                simp only [go_sem, Nat.reduceAdd, Nat.reduceLT, Nat.reduceEqDiff, Nat.reduceBEq, Nat.reduceLeDiff, Nat.reduceSub, Int.reduceToNat, reduceCtorEq, ↓reduceIte, w3]
                refine ⟨m' - 1, by omega, k + 1, by omega, ?_⟩
                rw [hft]
                simp only [List.cons_append, tBV, List.map_cons, List.map_append]
                cases W <;> rfl
          · have g1 : ((k : Int) < (L.length : Int)) = False := eq_false (by omega)
            obtain rfl : k = L.length := by omega
            rw [List.take_length, r3]
            simp only [go_sem, Nat.reduceAdd, Nat.reduceLT, Nat.reduceEqDiff, Nat.reduceBEq, Nat.reduceLeDiff, Nat.reduceSub, Int.reduceToNat, reduceCtorEq, ↓reduceIte, List.length_map, g1, decide_false]
            cases W with
            | nil =>
              have hS := C_SameTexts (.sl .nil 0 []) (.sl .nil 0 []) [] [] (.inr ⟨rfl, rfl⟩) (.inr ⟨rfl, rfl⟩) (by decide)
              rw [decide_eq_true rfl] at hS
              simp only [List.map_nil, tBV, tAV, go_sem, Nat.reduceAdd, Nat.reduceLT, Nat.reduceEqDiff, Nat.reduceBEq, Nat.reduceLeDiff, Nat.reduceSub, Int.reduceToNat, reduceCtorEq, ↓reduceIte]
              refine callX_of hS ?_
              simp only [go_sem, Nat.reduceAdd, Nat.reduceLT, Nat.reduceEqDiff, Nat.reduceBEq, Nat.reduceLeDiff, Nat.reduceSub, Int.reduceToNat, reduceCtorEq, ↓reduceIte]
            | cons w ws =>
              have hS := C_SameTexts (.sl .none 1 (((w :: ws).map toB).map avStr)) (.sl .none 1 (((w :: ws).map toB).map avStr)) ((w :: ws).map toB) ((w :: ws).map toB) (.inl rfl) (.inl rfl) (by rw [List.length_map]; omega)
              rw [decide_eq_true rfl] at hS
              simp only [List.map_cons, List.map_map] at hS
              simp only [List.map_cons, List.map_map, tBV, tAV, go_sem, Nat.reduceAdd, Nat.reduceLT, Nat.reduceEqDiff, Nat.reduceBEq, Nat.reduceLeDiff, Nat.reduceSub, Int.reduceToNat, reduceCtorEq, ↓reduceIte]
              refine callX_of hS ?_
              simp only [go_sem, Nat.reduceAdd, Nat.reduceLT, Nat.reduceEqDiff, Nat.reduceBEq, Nat.reduceLeDiff, Nat.reduceSub, Int.reduceToNat, reduceCtorEq, ↓reduceIte]

end Go.Proofs.YtodnphnbnneegaaDoor.VL
