/- What the statements' proofs share: arguments by their shapes. -/
import Derived.Test.YtmjmfollimaleaaRows
import Derived.Test.YtmjmfollimaleaaVL22
import Derived.ProofKit
set_option linter.unusedVariables false
namespace Go.Proofs.Ytmjmfollimaleaa
open Go.RowKit VL

theorem ownK : ownKnob Try.prog.godebug = none := by kernel_rfl

namespace VL
theorem fit_int {k : IntKind} {cs : List AV} (h : FitL [.int k] cs) : ∃ n : Int, (Lit.int k n).wf = true ∧ mkRow false cs = .lit (.int k n) := by
  simp only [FitL, Fit] at h
  obtain ⟨_, _, rfl, ⟨n, rfl, hw⟩, rfl⟩ := h
  exact ⟨n, hw, rfl⟩

/-- Rows, each told by something. -/
theorem fit_rows {α : Type} (f : α → AV) {agg : Bool} {row : List SC} (hf : ∀ cs, FitL row cs → ∃ a, mkRow agg cs = f a) : ∀ rows : List (List AV), (∀ cs ∈ rows, FitL row cs) → ∃ l : List α, rows.map (mkRow agg) = l.map f
  | [], _ => ⟨[], rfl⟩
  | cs :: rows, h => by
    obtain ⟨a, ha⟩ := hf cs (h cs (by simp))
    obtain ⟨l, hl⟩ := fit_rows f hf rows fun c hc => h c (by simp [hc])
    exact ⟨a :: l, by simp [ha, hl]⟩

theorem fit_slice {α : Type} (f : α → AV) {agg : Bool} {row : List SC} {cs : List AV} (hf : ∀ cs, FitL row cs → ∃ a, mkRow agg cs = f a) (h : FitL [.sl agg row] cs) : ∃ l : List α, l.length ≤ maxLen ∧ mkRow false cs = .sl .none row.length (l.map f) := by
  simp only [FitL, Fit] at h
  obtain ⟨_, _, rfl, ⟨rows, rfl, hm, hr⟩, rfl⟩ := h
  obtain ⟨l, hl⟩ := fit_rows f hf rows hr
  have hlen : l.length = rows.length := by have := congrArg List.length hl; simpa using this.symm
  exact ⟨l, by omega, by simp only [mkRow, List.headD_cons, hl]⟩

/-- Rows that bear something more than their look. -/
theorem fit_rowsP {α : Type} (f : α → AV) (Q : α → Prop) {agg : Bool} {row : List SC} (hf : ∀ cs, FitL row cs → ∃ a, Q a ∧ mkRow agg cs = f a) : ∀ rows : List (List AV), (∀ cs ∈ rows, FitL row cs) → ∃ l : List α, (∀ a ∈ l, Q a) ∧ rows.map (mkRow agg) = l.map f
  | [], _ => ⟨[], by simp, rfl⟩
  | cs :: rows, h => by
    obtain ⟨a, hq, ha⟩ := hf cs (h cs (by simp))
    obtain ⟨l, hql, hl⟩ := fit_rowsP f Q hf rows fun c hc => h c (by simp [hc])
    exact ⟨a :: l, by simpa using ⟨hq, hql⟩, by simp [ha, hl]⟩

theorem fit_sliceP {α : Type} (f : α → AV) (Q : α → Prop) {agg : Bool} {row : List SC} {cs : List AV} (hf : ∀ cs, FitL row cs → ∃ a, Q a ∧ mkRow agg cs = f a) (h : FitL [.sl agg row] cs) : ∃ l : List α, l.length ≤ maxLen ∧ (∀ a ∈ l, Q a) ∧ mkRow false cs = .sl .none row.length (l.map f) := by
  simp only [FitL, Fit] at h
  obtain ⟨_, _, rfl, ⟨rows, rfl, hm, hr⟩, rfl⟩ := h
  obtain ⟨l, hq, hl⟩ := fit_rowsP f Q hf rows hr
  have hlen : l.length = rows.length := by have := congrArg List.length hl; simpa using this.symm
  exact ⟨l, by omega, hq, by simp only [mkRow, List.headD_cons, hl]⟩
end VL

end Go.Proofs.Ytmjmfollimaleaa
