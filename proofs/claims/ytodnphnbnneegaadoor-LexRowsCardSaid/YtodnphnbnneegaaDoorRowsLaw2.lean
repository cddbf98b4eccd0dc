/- LexRows: the text and its lines. -/
import Derived.Test.YtodnphnbnneegaaDoorRowsLaw
set_option linter.unusedVariables false
set_option linter.unusedSimpArgs false
namespace Go.Proofs.YtodnphnbnneegaaDoor.VL
open Go.RowKit Go.Proofs

theorem rdig : ∀ (n : Nat), ∀ b ∈ Lib.decDigits n, 48 ≤ b.toNat ∧ b.toNat ≤ 57 := by
  intro n
  induction n using Nat.strongRecOn with
  | ind n ih =>
    by_cases h : n < 10
    · rw [Lib.decDigits, dif_pos h]
      intro b hb
      rw [List.mem_singleton] at hb
      subst hb
      have : (UInt8.ofNat (48 + n)).toNat = 48 + n := by simp; omega
      omega
    · rw [Lib.decDigits, dif_neg h]
      intro b hb
      rcases List.mem_append.1 hb with hb | hb
      · exact ih (n / 10) (by omega) b hb
      · rw [List.mem_singleton] at hb
        subst hb
        have : (UInt8.ofNat (48 + n % 10)).toNat = 48 + n % 10 := by simp; omega
        omega

def wordL (i k : Nat) : List UInt8 := 119 :: (Lib.decDigits i ++ Lib.decDigits k)
def wordsL (i n : Nat) : List (List UInt8) := (List.range n).map (wordL i)
def gapL : Nat → List UInt8
  | 0 => [32]
  | 1 => [9]
  | 2 => [32, 32, 9, 32]
  | _ => [32, 13]
def tailL (g : List UInt8) : Nat → List UInt8
  | 0 => []
  | 1 => [32, 35, 32, 110, 111, 116, 101, 32, 35, 32, 109, 111, 114, 101]
  | 2 => [35, 120]
  | _ => g
def lineL (g : List UInt8) (i n t : Nat) : List UInt8 := bodyW g (wordsL i n) ++ tailL g t
def linesL (g : List UInt8) : Nat → List (Nat × Nat) → List (List UInt8)
  | _, [] => []
  | i, q :: r => lineL g i q.1 q.2 :: linesL g (i + 1) r
def textL (g : List UInt8) : Nat → List (Nat × Nat) → List UInt8
  | _, [] => []
  | i, q :: r => lineL g i q.1 q.2 ++ 10 :: textL g (i + 1) r

theorem word_byte (i k : Nat) : ∀ x ∈ wordL i k, x.toNat = 119 ∨ (48 ≤ x.toNat ∧ x.toNat ≤ 57) := by
  intro x hx
  rcases List.mem_cons.1 hx with rfl | hx
  · exact .inl rfl
  · rcases List.mem_append.1 hx with hx | hx
    · exact .inr (rdig _ x hx)
    · exact .inr (rdig _ x hx)
theorem word_ok (i k : Nat) : wordL i k ≠ [] ∧ ∀ x ∈ wordL i k, spB x = false := by
  refine ⟨by simp [wordL], fun x hx => ?_⟩
  have h := word_byte i k x hx
  cases hs : spB x with
  | false => rfl
  | true =>
    simp only [spB, Bool.or_eq_true, beq_iff_eq] at hs
    rcases hs with rfl | rfl | rfl <;> simp at h
theorem gap_ok (b : Nat) : (∀ x ∈ gapL b, spB x = true) ∧ gapL b ≠ [] ∧ (∀ x ∈ gapL b, x ≠ 35 ∧ x ≠ 10) := by
  match b with
  | 0 => decide
  | 1 => decide
  | 2 => decide
  | b + 3 => show (∀ x ∈ ([32, 13] : List UInt8), spB x = true) ∧ ([32, 13] : List UInt8) ≠ [] ∧ (∀ x ∈ ([32, 13] : List UInt8), x ≠ 35 ∧ x ≠ 10); decide

theorem body_no (g : List UInt8) (hg : ∀ x ∈ g, x ≠ 35 ∧ x ≠ 10) : ∀ ws : List (List UInt8), (∀ w ∈ ws, ∃ i k, w = wordL i k) → ∀ x ∈ bodyW g ws, x ≠ 35 ∧ x ≠ 10
  | [], _, x, hx => by cases hx
  | w :: ws, h, x, hx => by
    rw [bodyW] at hx
    rcases List.mem_append.1 hx with hx | hx
    · exact hg x hx
    · rcases List.mem_append.1 hx with hx | hx
      · obtain ⟨i, k, rfl⟩ := h w List.mem_cons_self
        have := word_byte i k x hx
        constructor <;> rintro rfl <;> simp at this
      · exact body_no g hg ws (fun y hy => h y (List.mem_cons_of_mem _ hy)) x hx
theorem wordsL_form (i n : Nat) : ∀ w ∈ wordsL i n, ∃ i k, w = wordL i k := by
  intro w hw
  obtain ⟨k, _, rfl⟩ := List.mem_map.1 hw
  exact ⟨i, k, rfl⟩

theorem b35_none (l : List UInt8) (h : ∀ x ∈ l, x ≠ 35) : b35 l = l := by
  have := b35_app l [] h
  simpa [b35] using this

theorem tail_b35 (b t : Nat) : ∀ x ∈ b35 (tailL (gapL b) t), spB x = true := by
  match t with
  | 0 => intro x hx; cases hx
  | 1 => show ∀ x ∈ ([32] : List UInt8), spB x = true; decide
  | 2 => intro x hx; cases hx
  | t + 3 =>
    show ∀ x ∈ b35 (gapL b), spB x = true
    rw [b35_none _ fun x hx => ((gap_ok b).2.2 x hx).1]
    exact (gap_ok b).1
theorem tail_no (b t : Nat) : ∀ x ∈ tailL (gapL b) t, x ≠ 10 := by
  match t with
  | 0 => intro x hx; cases hx
  | 1 => show ∀ x ∈ ([32, 35, 32, 110, 111, 116, 101, 32, 35, 32, 109, 111, 114, 101] : List UInt8), x ≠ 10; decide
  | 2 => show ∀ x ∈ ([35, 120] : List UInt8), x ≠ 10; decide
  | t + 3 => exact fun x hx => ((gap_ok b).2.2 x hx).2

theorem line_words (b i n t : Nat) : wordsOf (toB (lineL (gapL b) i n t)) = (wordsL i n).map toB := by
  obtain ⟨g1, g2, g3⟩ := gap_ok b
  have hbn := body_no (gapL b) g3 (wordsL i n) (wordsL_form i n)
  have : wordsOf (toB (lineL (gapL b) i n t)) = (fB (b35 (lineL (gapL b) i n t)) []).map toB := by
    unfold wordsOf
    rw [fields_fB, data_toB, cut_b35]
  rw [this, lineL, b35_app _ _ fun x hx => (hbn x hx).1, fB_body (gapL b) _ g1 g2 (tail_b35 b t)]
  intro w hw
  obtain ⟨i', k', rfl⟩ := wordsL_form i n w hw
  exact word_ok i' k'
theorem line_no (b i n t : Nat) : ∀ x ∈ lineL (gapL b) i n t, x ≠ 10 := by
  intro x hx
  rcases List.mem_append.1 hx with hx | hx
  · exact (body_no (gapL b) (gap_ok b).2.2 _ (wordsL_form i n) x hx).2
  · exact tail_no b t x hx

theorem spl_text (b : Nat) : ∀ (rows : List (Nat × Nat)) (i : Nat), spl 10 (textL (gapL b) i rows) = linesL (gapL b) i rows ++ [[]]
  | [], _ => rfl
  | q :: r, i => by
    rw [textL, spl_app 10 _ _ (line_no b i q.1 q.2), spl_text b r (i + 1)]
    rfl
theorem linesL_len (g : List UInt8) : ∀ (rows : List (Nat × Nat)) (i : Nat), (linesL g i rows).length = rows.length
  | [], _ => rfl
  | q :: r, i => by simp [linesL, linesL_len g r (i + 1)]

def wantL : Nat → List (Nat × Nat) → List (List UInt8)
  | _, [] => []
  | i, q :: r => wordsL i q.1 ++ wantL (i + 1) r
theorem lines_want (b : Nat) : ∀ (rows : List (Nat × Nat)) (i : Nat), ((linesL (gapL b) i rows).map toB).flatMap wordsOf = (wantL i rows).map toB
  | [], _ => rfl
  | q :: r, i => by
    rw [linesL, List.map_cons, List.flatMap_cons, line_words, lines_want b r (i + 1), wantL, List.map_append]

theorem text_lines (b : Nat) (rows : List (Nat × Nat)) : linesV (toB (textL (gapL b) 0 rows)) = linesGo 0 ((linesL (gapL b) 0 rows).map toB) := by
  unfold linesV
  rw [parts_spl, data_toB, spl_text, List.map_append, List.map_cons, List.map_nil, linesGo_app]
  have : lineOf (0 + ((linesL (gapL b) 0 rows).map toB).length) (toB []) = [] := if_pos (by decide +kernel)
  rw [this, List.append_nil]

/-- What LexRows asks of a text's lines. -/
theorem rows_lines (b : Nat) (rows : List (Nat × Nat)) : (∀ p ∈ linesV (toB (textL (gapL b) 0 rows)), 1 ≤ p.1 ∧ p.1 ≤ rows.length ∧ p.2 ≠ []) ∧ (linesV (toB (textL (gapL b) 0 rows))).Pairwise (fun p q => p.1 < q.1) ∧
    (linesV (toB (textL (gapL b) 0 rows))).flatMap (·.2) = (wantL 0 rows).map toB := by
  rw [text_lines]
  refine ⟨fun p hp => ?_, linesGo_up _ 0, ?_⟩
  · have := linesGo_no _ 0 p hp
    rw [List.length_map, linesL_len] at this
    exact ⟨by omega, by omega, this.2.2⟩
  · rw [linesGo_words, lines_want]

end Go.Proofs.YtodnphnbnneegaaDoor.VL
