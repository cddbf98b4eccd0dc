/- LexRows: plain laws. -/
import Derived.Test.YtodnphnbnneegaaDoorFieldsLaw2
set_option linter.unusedVariables false
set_option linter.unusedSimpArgs false
namespace Go.Proofs.YtodnphnbnneegaaDoor.VL
open Go.RowKit Go.Proofs

/-- Words, each behind a gap. -/
def bodyW (g : List UInt8) : List (List UInt8) → List UInt8
  | [] => []
  | w :: ws => g ++ (w ++ bodyW g ws)
theorem bodyW_app (g w : List UInt8) : ∀ ws, bodyW g (ws ++ [w]) = bodyW g ws ++ (g ++ w)
  | [] => by simp [bodyW]
  | x :: ws => by simp [bodyW, bodyW_app g w ws]

theorem fB_gap : ∀ (g r : List UInt8), (∀ x ∈ g, spB x = true) → fB (g ++ r) [] = fB r []
  | [], r, _ => rfl
  | b :: g, r, h => by rw [List.cons_append, fB, if_pos (h b List.mem_cons_self), if_pos rfl, fB_gap g r fun x hx => h x (List.mem_cons_of_mem _ hx)]
theorem fB_close (r w : List UInt8) (hw : w ≠ []) (h : r = [] ∨ ∃ b r', r = b :: r' ∧ spB b = true) : fB r w = w :: fB r [] := by
  rcases h with rfl | ⟨b, r', rfl, hb⟩
  · rw [fB_end w hw]; rfl
  · rw [fB_spc b r' w hb hw, fB, if_pos hb, if_pos rfl]

theorem fB_body (g sp : List UInt8) (hg : ∀ x ∈ g, spB x = true) (hg0 : g ≠ []) (hsp : ∀ x ∈ sp, spB x = true) : ∀ ws : List (List UInt8), (∀ w ∈ ws, w ≠ [] ∧ ∀ x ∈ w, spB x = false) → fB (bodyW g ws ++ sp) [] = ws
  | [], _ => by
    have := fB_gap sp [] hsp
    rw [List.append_nil] at this
    rw [bodyW, List.nil_append, this]
    rfl
  | w :: ws, h => by
    obtain ⟨h1, h2⟩ := h w List.mem_cons_self
    rw [bodyW, List.append_assoc, List.append_assoc, fB_gap g _ hg, fB_run _ w [] h2, List.nil_append, fB_close _ w h1, fB_body g sp hg hg0 hsp ws fun x hx => h x (List.mem_cons_of_mem _ hx)]
    cases ws with
    | nil =>
      cases sp with
      | nil => exact .inl rfl
      | cons b r => exact .inr ⟨b, r, rfl, hsp b List.mem_cons_self⟩
    | cons y ys =>
      cases g with
      | nil => exact absurd rfl hg0
      | cons b r => exact .inr ⟨b, _, rfl, hg b List.mem_cons_self⟩

theorem b35_app : ∀ (d r : List UInt8), (∀ x ∈ d, x ≠ 35) → b35 (d ++ r) = d ++ b35 r
  | [], r, _ => rfl
  | b :: d, r, h => by rw [List.cons_append, b35, if_neg (h b List.mem_cons_self), b35_app d r fun x hx => h x (List.mem_cons_of_mem _ hx), List.cons_append]

/-! ### What the lines of any text are -/
theorem linesGo_no : ∀ (ps : List ByteArray) (i : Nat), ∀ p ∈ linesGo i ps, i < p.1 ∧ p.1 ≤ i + ps.length ∧ p.2 ≠ []
  | [], _, p, h => by cases h
  | x :: ps, i, p, h => by
    rw [linesGo] at h
    rcases List.mem_append.1 h with h | h
    · unfold lineOf at h
      split at h
      · cases h
      · rename_i hw
        rw [List.mem_singleton] at h
        subst h
        simp only [List.length_cons]
        exact ⟨by omega, by omega, hw⟩
    · have := linesGo_no ps (i + 1) p h
      simp only [List.length_cons]
      exact ⟨by omega, by omega, this.2.2⟩
theorem linesGo_up : ∀ (ps : List ByteArray) (i : Nat), (linesGo i ps).Pairwise fun p q => p.1 < q.1
  | [], _ => List.Pairwise.nil
  | x :: ps, i => by
    rw [linesGo, List.pairwise_append]
    refine ⟨?_, linesGo_up ps (i + 1), fun p hp q hq => ?_⟩
    · unfold lineOf
      split
      · exact List.Pairwise.nil
      · exact List.pairwise_singleton _ _
    · have h2 := linesGo_no ps (i + 1) q hq
      unfold lineOf at hp
      split at hp
      · cases hp
      · rw [List.mem_singleton] at hp
        subst hp
        exact h2.1
theorem linesGo_words : ∀ (ps : List ByteArray) (i : Nat), (linesGo i ps).flatMap (·.2) = ps.flatMap wordsOf
  | [], _ => rfl
  | x :: ps, i => by
    rw [linesGo, List.flatMap_append, linesGo_words ps (i + 1), List.flatMap_cons]
    congr 1
    unfold lineOf
    split
    · rename_i h
      rw [h]; rfl
    · simp

end Go.Proofs.YtodnphnbnneegaaDoor.VL
