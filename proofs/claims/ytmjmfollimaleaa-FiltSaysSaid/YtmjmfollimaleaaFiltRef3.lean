/- filt, the document's own answers, part 3: Filtered. -/
import Derived.Test.YtmjmfollimaleaaFiltRef2
set_option linter.unusedVariables false
set_option linter.unusedSimpArgs false
set_option maxHeartbeats 4000000
namespace Go.Proofs.Ytmjmfollimaleaa.VL
open Go.RowKit Go.Proofs Go.Sort

def condF (l : List Mem) (m : Mem) (a : Int) : Bool := !anyOf l || (!m.only && !(l.any fun m => admits m a))
def stepF (l : List Mem) (m : Mem) (acc : List Int) (a : Int) : List Int := if condF l m a then putIn acc a else acc
def foldF (l : List Mem) (L : List Mem) : List Int := L.foldl (fun acc m => m.s.foldl (stepF l m) acc) []
def filtOf (l : List Mem) : List Int := foldF l l

theorem foldl_take {α β : Type} (f : β → α → β) (b : β) (l : List α) {k : Nat} {x : α} (h : l[k]? = some x) : (l.take (k + 1)).foldl f b = f ((l.take k).foldl f b) x := by
  rw [List.take_add_one, h]
  simp
theorem step_len (l : List Mem) (m : Mem) : ∀ (L : List Int) (acc : List Int), (L.foldl (stepF l m) acc).length ≤ acc.length + L.length
  | [], acc => by simp
  | a :: L, acc => by
    have h1 := step_len l m L (stepF l m acc a)
    have h2 : (stepF l m acc a).length ≤ acc.length + 1 := by
      rw [stepF]
      split
      · exact put_len _ _
      · omega
    simp only [List.foldl_cons, List.length_cons]
    omega
theorem fold_len (l : List Mem) : ∀ (i : Nat), i ≤ l.length → (foldF l (l.take i)).length ≤ (allOf (l.take i)).length
  | 0, _ => by simp [foldF]
  | i + 1, hi => by
    have hx : l[i]? = some l[i] := List.getElem?_eq_getElem (by omega)
    have ih := fold_len l i (by omega)
    have h1 := step_len l l[i] l[i].s (foldF l (l.take i))
    rw [allOf_take l hx, List.length_append, foldF, foldl_take _ _ _ hx]
    rw [foldF] at h1 ih
    omega

/-! ### What it lists -/
theorem mem_step {l : List Mem} {m : Mem} {b : Int} : ∀ {L : List Int} {acc : List Int}, b ∈ L.foldl (stepF l m) acc ↔ b ∈ acc ∨ (b ∈ L ∧ condF l m b = true)
  | [], acc => by simp
  | a :: L, acc => by
    rw [List.foldl_cons, mem_step]
    have h : b ∈ stepF l m acc a ↔ b ∈ acc ∨ (b = a ∧ condF l m b = true) := by
      rw [stepF]
      split
      · rename_i hc
        rw [mem_put]
        constructor
        · rintro (h | h)
          · exact .inr ⟨h, by rw [h]; exact hc⟩
          · exact .inl h
        · rintro (h | ⟨h, _⟩)
          · exact .inr h
          · exact .inl h
      · rename_i hc
        constructor
        · exact .inl
        · rintro (h | ⟨h, h2⟩)
          · exact h
          · rw [h] at h2; exact absurd h2 hc
    rw [h, List.mem_cons]
    constructor
    · rintro ((h | ⟨h, h2⟩) | ⟨h, h2⟩)
      · exact .inl h
      · exact .inr ⟨.inl h, h2⟩
      · exact .inr ⟨.inr h, h2⟩
    · rintro (h | ⟨h | h, h2⟩)
      · exact .inl (.inl h)
      · exact .inl (.inr ⟨h, h2⟩)
      · exact .inr ⟨h, h2⟩
theorem mem_fold {l : List Mem} {b : Int} : ∀ {L : List Mem} {acc : List Int}, b ∈ L.foldl (fun acc m => m.s.foldl (stepF l m) acc) acc ↔ b ∈ acc ∨ ∃ m ∈ L, b ∈ m.s ∧ condF l m b = true
  | [], acc => by simp
  | m :: L, acc => by
    rw [List.foldl_cons, mem_fold, mem_step]
    constructor
    · rintro ((h | h) | ⟨m', h, h2⟩)
      · exact .inl h
      · exact .inr ⟨m, List.mem_cons_self, h⟩
      · exact .inr ⟨m', List.mem_cons_of_mem _ h, h2⟩
    · rintro (h | ⟨m', h, h2⟩)
      · exact .inl (.inl h)
      · rcases List.mem_cons.1 h with rfl | h
        · exact .inl (.inr h2)
        · exact .inr ⟨m', h, h2⟩
theorem step_rising {l : List Mem} {m : Mem} : ∀ {L : List Int} {acc : List Int}, Rising acc → Rising (L.foldl (stepF l m) acc)
  | [], acc, h => h
  | a :: L, acc, h => by
    rw [List.foldl_cons]
    refine step_rising ?_
    rw [stepF]
    split
    · exact put_rising h
    · exact h
theorem fold_rising {l : List Mem} : ∀ {L : List Mem} {acc : List Int}, Rising acc → Rising (L.foldl (fun acc m => m.s.foldl (stepF l m) acc) acc)
  | [], acc, h => h
  | m :: L, acc, h => by
    rw [List.foldl_cons]
    exact fold_rising (step_rising h)
/-- THE DOCUMENT'S OWN FILTER IS THE PROGRAM'S. -/
theorem filtOf_eq (l : List Mem) : filtOf l = srcOf l := by
  refine rising_ext (fold_rising List.Pairwise.nil) (srcOf_rising l) fun a => ?_
  rw [filtOf, foldF, mem_fold, mem_src, mem_all]
  have hadm : ∀ m ∈ l, admits m a = true → (l.any fun m => admits m a) = true := fun m hm h => List.any_eq_true.2 ⟨m, hm, h⟩
  cases hany : anyOf l with
  | false =>
    have ho : ∀ m ∈ l, m.only = true := fun m hm => by
      rw [anyOf, List.any_eq_false] at hany
      simpa using hany m hm
    simp only [condF, hany, Bool.not_false, Bool.true_or, and_true, List.not_mem_nil, false_or]
    constructor
    · rintro ⟨m, hm, h⟩
      refine ⟨⟨m, hm, h⟩, ?_⟩
      rw [hadm m hm (by rw [admits, has_iff.2 h, ho m hm]; rfl)]
      rfl
    · exact fun h => h.1
  | true =>
    simp only [condF, hany, Bool.not_true, Bool.false_or, List.not_mem_nil, false_or, Bool.and_eq_true, Bool.not_eq_true']
    constructor
    · rintro ⟨m, hm, h, h2, h3⟩
      exact ⟨⟨m, hm, h⟩, by rw [h3]; rfl⟩
    · rintro ⟨⟨m, hm, h⟩, h2⟩
      have h3 : (l.any fun m => admits m a) = false := by
        revert h2
        cases (l.any fun m => admits m a) <;> simp
      refine ⟨m, hm, h, ?_, h3⟩
      have h4 : admits m a = false := by
        cases hb : admits m a with
        | false => rfl
        | true => rw [hadm m hm hb] at h3; cases h3
      rw [admits, has_iff.2 h] at h4
      revert h4
      cases m.only <;> simp

theorem C_PutN (a : Int) (t : Tok) (e : Nat) : AC Try.prog f_rivuletref_PutAddr [.sl t e [], aI a] (.sl .none 1 ((putIn [] a).map aI)) := by
  refine AC_args (C_Put [] a (by decide)) fun E vs h => ?_
  simp only [RepL] at h ⊢
  obtain ⟨v, ws, rfl, h1, h2⟩ := h
  exact ⟨v, ws, rfl, rep_sl0 h1, h2⟩

def yF (acc : List Int) : AV := if acc = [] then .sl .nil 0 [] else .sl .none 1 (acc.map aI)
theorem put_ne (l : List Int) (a : Int) : putIn l a ≠ [] := fun h => by
  have : a ∈ putIn l a := mem_put.2 (.inl rfl)
  rw [h] at this
  simp at this
theorem yF_put (l : List Int) (a : Int) : yF (putIn l a) = .sl .none 1 ((putIn l a).map aI) := if_neg (put_ne l a)
/-- What PutAddr is handed. -/
theorem C_PutY (acc : List Int) (a : Int) (h : acc.length ≤ 4294967294) : ∃ t e, yF acc = .sl t e (acc.map aI) ∧ lowTok t = t ∧ (t = .none ∨ t = .nil) ∧ AC Try.prog f_rivuletref_PutAddr [.sl t e (acc.map aI), aI a] (yF (putIn acc a)) := by
  rw [yF_put]
  by_cases h0 : acc = []
  · subst h0
    exact ⟨.nil, 0, rfl, rfl, .inr rfl, C_PutN a _ _⟩
  · exact ⟨.none, 1, if_neg h0, rfl, .inl rfl, C_Put acc a h⟩

theorem W_Filtered (l : List Mem) (hl : (allOf l).length ≤ 255) (hn : l.length ≤ 4294967296) :
    aw Try.prog c_rivuletref8_Filtered (env0 [.sl .none 4 (l.map avM)]) (endQ v_rivuletref8_Filtered (.agg [.lit (.bool (anyOf l)), yF (filtOf l)])) := by
  have hms : ∀ m ∈ l, m.s.length < 9223372036854775808 := fun m hm => by
    obtain ⟨k, hk⟩ := List.getElem?_of_mem hm
    have h1 := allOf_le l (k + 1)
    rw [allOf_take l hk, List.length_append] at h1
    omega
  simp only [go_sem, Nat.reduceAdd, Nat.reduceLT, Nat.reduceEqDiff, Nat.reduceBEq, Nat.reduceLeDiff, Nat.reduceSub, Int.reduceToNat, reduceCtorEq, ↓reduceIte, c_rivuletref8_Filtered]
  refine aw_loop (fun m E => ∃ k, k + m = l.length ∧ E = mkE [(0, .sl .none 4 (l.map avM)), (2, .lp 2 0), (3, .lp 3 0), (4, .lit (.int .i64 (k : Nat)))] [(2, [.lit (.bool false), .sl .nil 0 []]), (3, [.lit (.bool (anyOf (l.take k))), .sl .nil 0 []])]) l.length ?_ ?_
  · exact ⟨0, by omega, by simp only [go_sem, Nat.reduceAdd, Nat.reduceLT, Nat.reduceEqDiff, Nat.reduceBEq, Nat.reduceLeDiff, Nat.reduceSub, Int.reduceToNat, reduceCtorEq, ↓reduceIte, Int.ofNat_zero, anyOf, List.any_nil]⟩
  · rintro m _ ⟨k, hk, rfl⟩
    simp only [go_sem, Nat.reduceAdd, Nat.reduceLT, Nat.reduceEqDiff, Nat.reduceBEq, Nat.reduceLeDiff, Nat.reduceSub, Int.reduceToNat, reduceCtorEq, ↓reduceIte]
    refine condX_of (fun h => ?_) (fun h => ?_)
    · have hkl : k < l.length := by simpa using h
      obtain ⟨x, hx⟩ : ∃ x, l[k]? = some x := ⟨l[k], List.getElem?_eq_getElem hkl⟩
      have hw := wrap_succ k (by omega)
      have hat : anyOf (l.take (k + 1)) = (anyOf (l.take k) || !x.only) := any_take (fun m : Mem => !m.only) l hx
      obtain ⟨t, e, es, ht, hg, he, htt⟩ := asV_cases x.src
      cases hb : anyOf (l.take k) with
      | true =>
        rw [hb, Bool.true_or] at hat
        simp only [go_sem, Nat.reduceAdd, Nat.reduceLT, Nat.reduceEqDiff, Nat.reduceBEq, Nat.reduceLeDiff, Nat.reduceSub, Int.reduceToNat, reduceCtorEq, ↓reduceIte, h, hw]
        exact ⟨m - 1, by omega, k + 1, by omega, by rw [hat]⟩
      | false =>
        rw [hb, Bool.false_or] at hat
        simp only [go_sem, Nat.reduceAdd, Nat.reduceLT, Nat.reduceEqDiff, Nat.reduceBEq, Nat.reduceLeDiff, Nat.reduceSub, Int.reduceToNat, reduceCtorEq, ↓reduceIte, h, hx, Int.toNat_natCast, Int.natCast_nonneg, List.getElem?_map, avM_row, hw]
        exact ⟨m - 1, by omega, k + 1, by omega, by rw [hat]⟩
    · have hkl : k = l.length := by have : ¬ k < l.length := by simpa using h
                                    omega
      subst hkl
      simp only [go_sem, Nat.reduceAdd, Nat.reduceLT, Nat.reduceEqDiff, Nat.reduceBEq, Nat.reduceLeDiff, Nat.reduceSub, Int.reduceToNat, reduceCtorEq, ↓reduceIte, h, List.take_length]
      refine aw_loop (fun m E => ∃ k, k + m = l.length ∧ E = mkE [(0, .sl .none 4 (l.map avM)), (2, .lp 2 0), (3, .lp 3 0), (5, .lit (.int .i64 (k : Nat)))] [(2, [.lit (.bool false), .sl .nil 0 []]), (3, [.lit (.bool (anyOf l)), yF (foldF l (l.take k))])]) l.length ?_ ?_
      · exact ⟨0, by omega, by simp only [go_sem, Nat.reduceAdd, Nat.reduceLT, Nat.reduceEqDiff, Nat.reduceBEq, Nat.reduceLeDiff, Nat.reduceSub, Int.reduceToNat, reduceCtorEq, ↓reduceIte, Int.ofNat_zero]; rfl⟩
      · clear hk h
        rintro m _ ⟨k, hk, rfl⟩
        simp only [go_sem, Nat.reduceAdd, Nat.reduceLT, Nat.reduceEqDiff, Nat.reduceBEq, Nat.reduceLeDiff, Nat.reduceSub, Int.reduceToNat, reduceCtorEq, ↓reduceIte]
        refine condX_of (fun h => ?_) (fun h => ?_)
        · have hkl : k < l.length := by simpa using h
          obtain ⟨x, hx⟩ : ∃ x, l[k]? = some x := ⟨l[k], List.getElem?_eq_getElem hkl⟩
          have hw := wrap_succ k (by omega)
          have hxm := List.mem_of_getElem? hx
          have hfold : foldF l (l.take (k + 1)) = x.s.foldl (stepF l x) (foldF l (l.take k)) := foldl_take _ _ _ hx
          have hbase := fold_len l k (by omega)
          have hall := allOf_le l (k + 1)
          rw [allOf_take l hx, List.length_append] at hall
          obtain ⟨t, e, es, ht, hg, he, htt⟩ := asV_cases x.src
          have hxs : asL x.src = x.s := rfl
          rw [hxs] at es he htt
          have hft : frB t = false := by rcases htt with rfl | ⟨rfl, _⟩ <;> rfl
          simp only [go_sem, Nat.reduceAdd, Nat.reduceLT, Nat.reduceEqDiff, Nat.reduceBEq, Nat.reduceLeDiff, Nat.reduceSub, Int.reduceToNat, reduceCtorEq, ↓reduceIte, h]
          refine aw_loop (fun m E => ∃ j, j + m = x.s.length ∧ E = mkE [(0, .sl .none 4 (l.map avM)), (2, .lp 2 0), (3, .lp 3 0), (5, .lit (.int .i64 (k : Nat))), (6, .lit (.int .i64 (j : Nat)))] [(2, [.lit (.bool false), .sl .nil 0 []]), (3, [.lit (.bool (anyOf l)), yF ((x.s.take j).foldl (stepF l x) (foldF l (l.take k)))])]) x.s.length ?_ ?_
          · exact ⟨0, by omega, by simp only [go_sem, Nat.reduceAdd, Nat.reduceLT, Nat.reduceEqDiff, Nat.reduceBEq, Nat.reduceLeDiff, Nat.reduceSub, Int.reduceToNat, reduceCtorEq, ↓reduceIte, Int.ofNat_zero]; rfl⟩
          · rintro m' _ ⟨j, hj, rfl⟩
            by_cases hjx : j < x.s.length
            · obtain ⟨a, ha⟩ : ∃ a, x.s[j]? = some a := ⟨x.s[j], List.getElem?_eq_getElem hjx⟩
              obtain rfl : e = 1 := he.resolve_right (fun h => by rw [h] at hjx; simp at hjx)
              have hj1 : decide ((j : Int) < (x.s.length : Int)) = true := by simp; omega
              have hwj := wrap_succ j (by omega)
              have hstep : (x.s.take (j + 1)).foldl (stepF l x) (foldF l (l.take k)) = stepF l x ((x.s.take j).foldl (stepF l x) (foldF l (l.take k))) a := foldl_take _ _ _ ha
              have hacc := step_len l x (x.s.take j) (foldF l (l.take k))
              rw [List.length_take] at hacc
              generalize (x.s.take j).foldl (stepF l x) (foldF l (l.take k)) = acc at hstep hacc ⊢
              obtain ⟨t2, e2, hy, ht2, ht3, hput⟩ := C_PutY acc a (by omega)
              have hkp := C_kept l a hms (by omega)
              obtain rfl : t = .none := by
                rcases htt with h1 | ⟨_, h1⟩
                · exact h1
                · rw [h1] at hjx; simp at hjx
              have hr : avRow 1 1 Tok.none (some (aI a)) = some (.rp [aI a]) := rfl
              rw [stepF] at hstep
              rw [yF_put] at hput
              have next : ∀ y : AV, y = yF (if condF l x a = true then putIn acc a else acc) → ∃ k', k' < m' ∧ ∃ j', j' + k' = x.s.length ∧
                  mkE [(0, .sl .none 4 (l.map avM)), (2, .lp 2 0), (3, .lp 3 0), (5, .lit (.int .i64 (k : Nat))), (6, .lit (.int .i64 ((j + 1 : Nat) : Int)))] [(2, [.lit (.bool false), .sl .nil 0 []]), (3, [.lit (.bool (anyOf l)), y])] =
                  mkE [(0, .sl .none 4 (l.map avM)), (2, .lp 2 0), (3, .lp 3 0), (5, .lit (.int .i64 (k : Nat))), (6, .lit (.int .i64 (j' : Nat)))] [(2, [.lit (.bool false), .sl .nil 0 []]), (3, [.lit (.bool (anyOf l)), yF ((x.s.take j').foldl (stepF l x) (foldF l (l.take k)))])] := by
                rintro y rfl
                exact ⟨m' - 1, by omega, j + 1, by omega, by rw [hstep]⟩
              rw [condF] at next
              have hrow := avM_row x
              rw [es] at hrow
              cases hany : anyOf l with
              | false =>
                rw [hany] at next
                simp only [Bool.not_false, Bool.true_or, if_true, yF_put] at next
                rw [hy]
                simp only [go_sem, Nat.reduceAdd, Nat.reduceLT, Nat.reduceEqDiff, Nat.reduceBEq, Nat.reduceLeDiff, Nat.reduceSub, Int.reduceToNat, reduceCtorEq, ↓reduceIte, h, hx, ha, hj1, of_decide_eq_true h, of_decide_eq_true hj1, hany, Int.toNat_natCast, Int.natCast_nonneg, List.getElem?_map, hrow, hr, hwj, ht2]
                refine callX_of hput ?_
                simp only [go_sem, Nat.reduceAdd, Nat.reduceLT, Nat.reduceEqDiff, Nat.reduceBEq, Nat.reduceLeDiff, Nat.reduceSub, Int.reduceToNat, reduceCtorEq, ↓reduceIte, hwj]
                exact next _ rfl
              | true =>
                rw [hany] at next
                cases ho : x.only with
                | true =>
                  rw [ho] at next
                  simp only [Bool.not_true, Bool.false_or, Bool.false_and, Bool.false_eq_true, if_false] at next
                  simp only [go_sem, Nat.reduceAdd, Nat.reduceLT, Nat.reduceEqDiff, Nat.reduceBEq, Nat.reduceLeDiff, Nat.reduceSub, Int.reduceToNat, reduceCtorEq, ↓reduceIte, h, hx, ha, hj1, of_decide_eq_true h, of_decide_eq_true hj1, hany, ho, Int.toNat_natCast, Int.natCast_nonneg, List.getElem?_map, hrow, hr, hwj]
                  exact next _ rfl
                | false =>
                  rw [ho] at next
                  simp only [Bool.not_true, Bool.not_false, Bool.false_or, Bool.true_and] at next
                  rw [hy]
                  simp only [go_sem, Nat.reduceAdd, Nat.reduceLT, Nat.reduceEqDiff, Nat.reduceBEq, Nat.reduceLeDiff, Nat.reduceSub, Int.reduceToNat, reduceCtorEq, ↓reduceIte, h, hx, ha, hj1, of_decide_eq_true h, of_decide_eq_true hj1, hany, ho, Int.toNat_natCast, Int.natCast_nonneg, List.getElem?_map, hrow, hr, hwj]
                  refine callX_of hkp ?_
                  cases hka : l.any fun m => admits m a with
                  | true =>
                    rw [hka] at next
                    simp only [Bool.not_true, Bool.false_eq_true, if_false] at next
                    simp only [go_sem, Nat.reduceAdd, Nat.reduceLT, Nat.reduceEqDiff, Nat.reduceBEq, Nat.reduceLeDiff, Nat.reduceSub, Int.reduceToNat, reduceCtorEq, ↓reduceIte, hwj]
                    exact next _ hy.symm
                  | false =>
                    rw [hka] at next
                    simp only [Bool.not_false, if_true, yF_put] at next
                    simp only [go_sem, Nat.reduceAdd, Nat.reduceLT, Nat.reduceEqDiff, Nat.reduceBEq, Nat.reduceLeDiff, Nat.reduceSub, Int.reduceToNat, reduceCtorEq, ↓reduceIte, ht2]
                    refine callX_of hput ?_
                    simp only [go_sem, Nat.reduceAdd, Nat.reduceLT, Nat.reduceEqDiff, Nat.reduceBEq, Nat.reduceLeDiff, Nat.reduceSub, Int.reduceToNat, reduceCtorEq, ↓reduceIte, hwj]
                    exact next _ rfl
            · have hjl : j = x.s.length := by omega
              subst hjl
              have hj1 : decide ((x.s.length : Int) < (x.s.length : Int)) = false := by simp
              simp only [go_sem, Nat.reduceAdd, Nat.reduceLT, Nat.reduceEqDiff, Nat.reduceBEq, Nat.reduceLeDiff, Nat.reduceSub, Int.reduceToNat, reduceCtorEq, ↓reduceIte, h, hx, Int.toNat_natCast, Int.natCast_nonneg, List.getElem?_map, avM_row, es, List.length_map, hj1, hw, List.take_length]
              exact ⟨m - 1, by omega, k + 1, by omega, by rw [hfold]⟩
        · have hkl : k = l.length := by have : ¬ k < l.length := by simpa using h
                                        omega
          subst hkl
          have hf : foldF l l = filtOf l := rfl
          by_cases hz : filtOf l = []
          · have e : yF (filtOf l) = .sl .nil 0 [] := if_pos hz
            simp only [go_sem, Nat.reduceAdd, Nat.reduceLT, Nat.reduceEqDiff, Nat.reduceBEq, Nat.reduceLeDiff, Nat.reduceSub, Int.reduceToNat, reduceCtorEq, ↓reduceIte, h, List.take_length, hf, e]
          · have e : yF (filtOf l) = .sl .none 1 ((filtOf l).map aI) := if_neg hz
            simp only [go_sem, Nat.reduceAdd, Nat.reduceLT, Nat.reduceEqDiff, Nat.reduceBEq, Nat.reduceLeDiff, Nat.reduceSub, Int.reduceToNat, reduceCtorEq, ↓reduceIte, h, List.take_length, hf, e]

theorem C_Filtered (l : List Mem) (hl : (allOf l).length ≤ 255) (hn : l.length ≤ 4294967296) : AC Try.prog f_rivuletref8_Filtered [.sl .none 4 (l.map avM)] (.agg [.lit (.bool (anyOf l)), .sl .none 1 ((srcOf l).map aI)]) := by
  have h := W_Filtered l hl hn
  rw [filtOf_eq] at h
  unfold yF at h
  by_cases hz : srcOf l = []
  · rw [if_pos hz] at h
    refine AC_weak (ac_rivuletref8_Filtered h (Nat.le_add_left 1 _)) fun E v hv => ?_
    rw [hz]
    simp only [Rep, RepL] at hv ⊢
    obtain ⟨vs, rfl, v1, ws, rfl, rfl, v2, ws2, rfl, ⟨A, cap, us, rfl, h1, h2, h3, h4, h5⟩, rfl⟩ := hv
    refine ⟨_, rfl, _, _, rfl, rfl, _, _, rfl, ⟨A, cap, us, rfl, h1, h2, fun u hu => ?_, h4, fun hne => absurd rfl hne⟩, rfl⟩
    rw [h2] at hu
    simp at hu
  · rw [if_neg hz] at h
    exact ac_rivuletref8_Filtered h (Nat.le_add_left 1 _)

end Go.Proofs.Ytmjmfollimaleaa.VL
