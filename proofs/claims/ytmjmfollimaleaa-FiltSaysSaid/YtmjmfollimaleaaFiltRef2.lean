/- filt, the document's own answers, part 2: PutAddr, keys. -/
import Derived.Test.YtmjmfollimaleaaFiltRef
set_option linter.unusedVariables false
set_option linter.unusedSimpArgs false
set_option maxHeartbeats 4000000
namespace Go.Proofs.Ytmjmfollimaleaa.VL
open Go.RowKit Go.Proofs Go.Sort

/-- Into addresses that rise, each once. -/
def putIn : List Int → Int → List Int
  | [], a => [a]
  | x :: t, a => if x < a then x :: putIn t a else if x = a then x :: t else a :: x :: t

theorem mem_put {a b : Int} : ∀ {l : List Int}, b ∈ putIn l a ↔ b = a ∨ b ∈ l
  | [] => by simp [putIn]
  | x :: t => by
    have ih : b ∈ putIn t a ↔ b = a ∨ b ∈ t := mem_put
    simp only [putIn]
    split
    · rw [List.mem_cons, ih, List.mem_cons]
      constructor
      · rintro (h | h | h)
        · exact .inr (.inl h)
        · exact .inl h
        · exact .inr (.inr h)
      · rintro (h | h | h)
        · exact .inr (.inl h)
        · exact .inl h
        · exact .inr (.inr h)
    · split
      · rename_i h
        rw [h, List.mem_cons]
        constructor
        · exact fun h => .inr h
        · rintro (h | h)
          · exact .inl h
          · exact h
      · rw [List.mem_cons]
theorem put_rising {a : Int} : ∀ {l : List Int}, Rising l → Rising (putIn l a)
  | [], _ => by simp [putIn, Rising]
  | x :: t, h => by
    obtain ⟨h1, h2⟩ := List.pairwise_cons.1 h
    simp only [putIn]
    split
    · rename_i hx
      refine List.pairwise_cons.2 ⟨fun y hy => ?_, put_rising h2⟩
      rcases mem_put.1 hy with rfl | hy
      · exact hx
      · exact h1 y hy
    · split
      · exact h
      · rename_i hx hx2
        refine List.pairwise_cons.2 ⟨fun y hy => ?_, h⟩
        rcases List.mem_cons.1 hy with rfl | hy
        · omega
        · have := h1 y hy
          omega
theorem put_len (a : Int) : ∀ l : List Int, (putIn l a).length ≤ l.length + 1
  | [] => by simp [putIn]
  | x :: t => by
    have := put_len a t
    simp only [putIn]
    split
    · simp; omega
    · split <;> simp
/-- The place where it goes. -/
theorem put_at {a : Int} : ∀ {l : List Int} {k : Nat}, k ≤ l.length → (∀ (j : Nat) (y : Int), j < k → l[j]? = some y → y < a) → (∀ y, l[k]? = some y → ¬ y < a) → putIn l a = if l[k]? = some a then l else l.take k ++ [a] ++ l.drop k
  | [], k, hk, h1, h2 => by
    have : k = 0 := by simpa using hk
    subst this
    simp [putIn]
  | x :: t, 0, hk, h1, h2 => by
    have h := h2 x rfl
    simp only [putIn, if_neg h, List.getElem?_cons_zero, Option.some.injEq]
    split <;> simp
  | x :: t, k + 1, hk, h1, h2 => by
    have hx := h1 0 x (by omega) rfl
    have ih := put_at (l := t) (k := k) (by simpa using hk) (fun j y hj hy => h1 (j + 1) y (by omega) hy) (fun y hy => h2 y hy)
    simp only [putIn, if_pos hx, List.getElem?_cons_succ, ih]
    split <;> simp

theorem C_Addrs (l : List Int) (hl : l.length ≤ 4294967295) : AC Try.prog f_rivuletref_Addrs [.sl .none 1 (l.map aI)] (.sl (.own (if l = [] then [7] else [20])) 1 (l.map aI)) := by
  refine ac_rivuletref_Addrs ?_ (Nat.le_add_left 1 _)
  have m1 : ∀ (s : List (Nat × AV)) (c : List (Nat × List AV)), mkoM 1 4 7 (.lit (.int .i64 l.length)) s c = some (mkE (putA s 7 (.sl (.own [7]) 1 [])) c) := fun s c => mkoM_l 1 4 .i64 _ (by omega) (by omega) (by decide)
  simp only [go_sem, Nat.reduceAdd, Nat.reduceLT, Nat.reduceEqDiff, Nat.reduceBEq, Nat.reduceLeDiff, Nat.reduceSub, Int.reduceToNat, reduceCtorEq, ↓reduceIte, c_rivuletref_Addrs, m1]
  refine aw_loop (fun m E => ∃ (k : Nat) (τ : List Nat), k + m = l.length ∧ τ = (if k = 0 then [7] else [20]) ∧ E = mkE [(0, .sl .none 1 (l.map aI)), (3, .sl (.own τ) 1 ((l.take k).map aI)), (4, .lit (.int .i64 (k : Nat)))] []) l.length ?_ ?_
  · exact ⟨0, [7], by omega, rfl, by simp only [go_sem, Nat.reduceAdd, Nat.reduceLT, Nat.reduceEqDiff, Nat.reduceBEq, Nat.reduceLeDiff, Nat.reduceSub, Int.reduceToNat, reduceCtorEq, ↓reduceIte, Int.ofNat_zero]⟩
  · rintro m _ ⟨k, τ, hk, hτ, rfl⟩
    simp only [go_sem, Nat.reduceAdd, Nat.reduceLT, Nat.reduceEqDiff, Nat.reduceBEq, Nat.reduceLeDiff, Nat.reduceSub, Int.reduceToNat, reduceCtorEq, ↓reduceIte]
    refine condX_of (fun h => ?_) (fun h => ?_)
    · have hkl : k < l.length := by simpa using h
      obtain ⟨x, hx⟩ : ∃ x, l[k]? = some x := ⟨l[k], List.getElem?_eq_getElem hkl⟩
      have hw := wrap_succ k (by omega)
      have htk : (l.take (k + 1)).map aI = (l.take k).map aI ++ [aI x] := by
        rw [List.take_add_one, hx]
        simp
      have hr : ∀ z : Int, avRow 1 1 Tok.none (some (aI z)) = some (.rp [aI z]) := fun _ => rfl
      have a1 : ∀ (s : List (Nat × AV)) (c : List (Nat × List AV)), avApp 1 4 [] 20 s c (.sl (.own τ) 1 ((l.take k).map aI)) (.sl (.own [19]) 1 [aI x]) = some (mkE (putA (mapV (strip τ) s) 20 (.sl (.own [20]) 1 ((l.take k).map aI ++ [aI x]))) (mapV (stripL τ) c)) := fun s c =>
        avApp_ownG 1 4 1 20 [] τ s c _ _ (.own [19]) (by simp; omega) (by decide) rfl (.inl rfl) rfl
      simp only [go_sem, Nat.reduceAdd, Nat.reduceLT, Nat.reduceEqDiff, Nat.reduceBEq, Nat.reduceLeDiff, Nat.reduceSub, Int.reduceToNat, reduceCtorEq, ↓reduceIte, h, hx, Int.toNat_natCast, Int.natCast_nonneg, List.getElem?_map, hr, a1, hw]
      exact ⟨m - 1, by omega, k + 1, [20], by omega, rfl, by rw [htk]⟩
    · have hkl : k = l.length := by have : ¬ k < l.length := by simpa using h
                                    omega
      subst hkl
      have hτ' : τ = (if l = [] then [7] else [20]) := by
        rw [hτ]
        by_cases h0 : l = []
        · subst h0; rfl
        · rw [if_neg h0, if_neg (fun h1 => h0 (List.length_eq_zero_iff.1 h1))]
      simp only [go_sem, Nat.reduceAdd, Nat.reduceLT, Nat.reduceEqDiff, Nat.reduceBEq, Nat.reduceLeDiff, Nat.reduceSub, Int.reduceToNat, reduceCtorEq, ↓reduceIte, h, List.take_length, hτ']

/-- Where it goes. -/
structure PutAt (l : List Int) (a : Int) (k : Nat) : Prop where
  le : k ≤ l.length
  lo : ∀ (j : Nat) (y : Int), j < k → l[j]? = some y → y < a
  hi : ∀ y, l[k]? = some y → ¬ y < a
theorem putAt_ex (a : Int) : ∀ l : List Int, ∃ k, PutAt l a k
  | [] => ⟨0, by simp, fun j y h => absurd h (Nat.not_lt_zero j), fun y h => by simp at h⟩
  | x :: t => by
    by_cases h : x < a
    · obtain ⟨k, h1, h2, h3⟩ := putAt_ex a t
      refine ⟨k + 1, by simpa using h1, fun j y hj hy => ?_, fun y hy => h3 y (by simpa using hy)⟩
      cases j with
      | zero => have : x = y := by simpa using hy
                omega
      | succ j => exact h2 j y (by omega) (by simpa using hy)
    · refine ⟨0, by simp, fun j y hj => absurd hj (Nat.not_lt_zero j), fun y hy => ?_⟩
      have e : x = y := by simpa using hy
      rw [← e]
      exact h
theorem PutAt.uniq {l : List Int} {a : Int} {k K : Nat} (h : PutAt l a k) (H : PutAt l a K) : k = K := by
  have aux : ∀ {p q : Nat}, PutAt l a p → PutAt l a q → ¬ p < q := fun {p q} hp hq hlt => by
    have hl : p < l.length := Nat.lt_of_lt_of_le hlt hq.le
    exact hp.hi _ (List.getElem?_eq_getElem hl) (hq.lo p _ hlt (List.getElem?_eq_getElem hl))
  have := aux h H
  have := aux H h
  omega

theorem W_Put (l : List Int) (a : Int) (K : Nat) (H : PutAt l a K) (hl : l.length ≤ 4294967294) :
    aw Try.prog c_rivuletref_PutAddr (env0 [.sl .none 1 (l.map aI), aI a]) (endQ v_rivuletref_PutAddr (.sl (if l[K]? = some a then .none else .own [45]) 1 ((putIn l a).map aI))) := by
  simp only [go_sem, Nat.reduceAdd, Nat.reduceLT, Nat.reduceEqDiff, Nat.reduceBEq, Nat.reduceLeDiff, Nat.reduceSub, Int.reduceToNat, reduceCtorEq, ↓reduceIte, c_rivuletref_PutAddr]
  have hr : ∀ z : Int, avRow 1 1 Tok.none (some (aI z)) = some (.rp [aI z]) := fun _ => rfl
  refine aw_loopF (fun m E => ∃ k, k + m = l.length ∧ (∀ (j : Nat) (y : Int), j < k → l[j]? = some y → y < a) ∧ E = mkE [(0, .sl .none 1 (l.map aI)), (1, aI a), (5, .lit (.int .i64 (k : Nat)))] []) l.length
    (fun E' => E' = mkE [(0, .sl .none 1 (l.map aI)), (1, aI a), (5, .lit (.int .i64 (K : Nat)))] []) ?_ ?_ ?_
  · exact ⟨0, by omega, fun j y hj => absurd hj (Nat.not_lt_zero j), by simp only [go_sem, Nat.reduceAdd, Nat.reduceLT, Nat.reduceEqDiff, Nat.reduceBEq, Nat.reduceLeDiff, Nat.reduceSub, Int.reduceToNat, reduceCtorEq, ↓reduceIte, Int.ofNat_zero]⟩
  · rintro m _ ⟨k, hk, hlo, rfl⟩
    by_cases hkl : k < l.length
    · have h : decide ((k : Int) < (l.length : Int)) = true := by simp; omega
      obtain ⟨x, hx⟩ : ∃ x, l[k]? = some x := ⟨l[k], List.getElem?_eq_getElem hkl⟩
      have hw := wrap_succ k (by omega)
      by_cases hxa : x < a
      · have f1 : (x < a) = True := eq_true hxa
        simp only [go_sem, Nat.reduceAdd, Nat.reduceLT, Nat.reduceEqDiff, Nat.reduceBEq, Nat.reduceLeDiff, Nat.reduceSub, Int.reduceToNat, reduceCtorEq, ↓reduceIte, h, of_decide_eq_true h, hx, Int.toNat_natCast, Int.natCast_nonneg, List.getElem?_map, hr, f1, decide_true, hw]
        refine ⟨m - 1, by omega, k + 1, by omega, fun j y hj hy => ?_, rfl⟩
        by_cases hjk : j = k
        · subst hjk
          rw [hx] at hy
          injection hy with hy
          omega
        · exact hlo j y (by omega) hy
      · have f1 : (x < a) = False := eq_false hxa
        have e : k = K := PutAt.uniq ⟨by omega, hlo, fun y hy => by rw [hx] at hy; injection hy with hy; omega⟩ H
        simp only [go_sem, Nat.reduceAdd, Nat.reduceLT, Nat.reduceEqDiff, Nat.reduceBEq, Nat.reduceLeDiff, Nat.reduceSub, Int.reduceToNat, reduceCtorEq, ↓reduceIte, h, of_decide_eq_true h, hx, Int.toNat_natCast, Int.natCast_nonneg, List.getElem?_map, hr, f1, decide_false]
        rw [e]
    · have h : decide ((k : Int) < (l.length : Int)) = false := by simp; omega
      have e : k = K := PutAt.uniq ⟨by omega, hlo, fun y hy => by rw [List.getElem?_eq_none (by omega)] at hy; cases hy⟩ H
      simp only [go_sem, Nat.reduceAdd, Nat.reduceLT, Nat.reduceEqDiff, Nat.reduceBEq, Nat.reduceLeDiff, Nat.reduceSub, Int.reduceToNat, reduceCtorEq, ↓reduceIte, h]
      rw [e]
  · rintro _ rfl
    have hput := put_at H.le H.lo H.hi
    have hle := H.le
    have q1 : avSl 1 .none 1 (l.map aI) (some ((0 : Nat) : Int)) (some (K : Int)) = some (.sl .none 1 ((l.take K).map aI)) := by
      rw [avSl_some 1 .none (l.map aI) _ _ rfl (by simp; omega), Int.toNat_natCast, Int.toNat_natCast, List.drop_zero, List.map_take]
      rfl
    have q2 : avSl 1 .none 1 (l.map aI) (some (K : Int)) (some (l.length : Int)) = some (.sl .none 1 ((l.drop K).map aI)) := by
      rw [avSl_some 1 .none (l.map aI) _ _ rfl (by simp; omega), Int.toNat_natCast, Int.toNat_natCast, List.take_of_length_le (by simp), List.map_drop]
      rfl
    have htl : (l.take K).length ≤ l.length := by rw [List.length_take]; omega
    have hdl : (l.drop K).length ≤ l.length := by simp
    have hsum : (l.take K).length + (l.drop K).length = l.length := by simp; omega
    have hA := C_Addrs (l.take K) (by omega)
    generalize hτ : (if l.take K = [] then [7] else [20]) = τ at hA
    have a1 : ∀ (s : List (Nat × AV)) (c : List (Nat × List AV)), avApp 1 4 [] 40 s c (.sl (.own (37 :: τ)) 1 ((l.take K).map aI)) (.sl (.own [39]) 1 [aI a]) = some (mkE (putA (mapV (strip (37 :: τ)) s) 40 (.sl (.own [40]) 1 ((l.take K).map aI ++ [aI a]))) (mapV (stripL (37 :: τ)) c)) := fun s c =>
      avApp_ownG 1 4 1 40 [] (37 :: τ) s c _ _ (.own [39]) (by simp only [List.length_map, List.length_singleton]; omega) (by decide) rfl (.inl rfl) rfl
    have a2 : ∀ (s : List (Nat × AV)) (c : List (Nat × List AV)), avApp 1 4 [] 45 s c (.sl (.own [40]) 1 ((l.take K).map aI ++ [aI a])) (.sl .none 1 ((l.drop K).map aI)) = some (mkE (putA (mapV (strip [40]) s) 45 (.sl (.own [45]) 1 ((l.take K).map aI ++ [aI a] ++ (l.drop K).map aI))) (mapV (stripL [40]) c)) := fun s c =>
      avApp_ownG 1 4 1 45 [] [40] s c _ _ .none (by simp only [List.length_map, List.length_append, List.length_singleton]; omega) (by decide) rfl (.inl rfl) rfl
    by_cases heq : l[K]? = some a
    · have hkl : K < l.length := (List.getElem?_eq_some_iff.1 heq).1
      have h : decide ((K : Int) < (l.length : Int)) = true := by simp; omega
      rw [if_pos heq] at hput ⊢
      rw [hput]
      simp only [go_sem, Nat.reduceAdd, Nat.reduceLT, Nat.reduceEqDiff, Nat.reduceBEq, Nat.reduceLeDiff, Nat.reduceSub, Int.reduceToNat, reduceCtorEq, ↓reduceIte, h, of_decide_eq_true h, heq, Int.toNat_natCast, Int.natCast_nonneg, List.getElem?_map, hr]
    · rw [if_neg heq] at hput ⊢
      rw [hput, List.map_append, List.map_append, show [a].map aI = [aI a] from rfl]
      by_cases hkl : K < l.length
      · have h : decide ((K : Int) < (l.length : Int)) = true := by simp; omega
        obtain ⟨x, hx⟩ : ∃ x, l[K]? = some x := ⟨l[K], List.getElem?_eq_getElem hkl⟩
        have hxa : (x == a) = false := by
          cases hb : x == a with
          | false => rfl
          | true => exact absurd (by rw [hx]; congr 1; simpa using hb) heq
        simp only [go_sem, Nat.reduceAdd, Nat.reduceLT, Nat.reduceEqDiff, Nat.reduceBEq, Nat.reduceLeDiff, Nat.reduceSub, Int.reduceToNat, reduceCtorEq, ↓reduceIte, h, of_decide_eq_true h, hx, Int.toNat_natCast, Int.natCast_nonneg, List.getElem?_map, hr, hxa, q1, q2]
        refine callX_of hA ?_
        simp only [go_sem, Nat.reduceAdd, Nat.reduceLT, Nat.reduceEqDiff, Nat.reduceBEq, Nat.reduceLeDiff, Nat.reduceSub, Int.reduceToNat, reduceCtorEq, ↓reduceIte, a1, q2, a2]
      · have h : decide ((K : Int) < (l.length : Int)) = false := by simp; omega
        simp only [go_sem, Nat.reduceAdd, Nat.reduceLT, Nat.reduceEqDiff, Nat.reduceBEq, Nat.reduceLeDiff, Nat.reduceSub, Int.reduceToNat, reduceCtorEq, ↓reduceIte, h, q1]
        refine callX_of hA ?_
        simp only [go_sem, Nat.reduceAdd, Nat.reduceLT, Nat.reduceEqDiff, Nat.reduceBEq, Nat.reduceLeDiff, Nat.reduceSub, Int.reduceToNat, reduceCtorEq, ↓reduceIte, a1, q2, a2]

theorem C_Put (l : List Int) (a : Int) (hl : l.length ≤ 4294967294) : AC Try.prog f_rivuletref_PutAddr [.sl .none 1 (l.map aI), aI a] (.sl .none 1 ((putIn l a).map aI)) := by
  obtain ⟨K, H⟩ := putAt_ex a l
  have h := W_Put l a K H hl
  by_cases heq : l[K]? = some a
  · rw [if_pos heq] at h
    exact ac_rivuletref_PutAddr h (Nat.le_add_left 2 _)
  · rw [if_neg heq] at h
    exact AC_weak (ac_rivuletref_PutAddr h (Nat.le_add_left 2 _)) fun E v hv => rep_own hv

end Go.Proofs.Ytmjmfollimaleaa.VL
