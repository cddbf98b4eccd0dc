/- Arguments by their shapes: texts, prefixes. -/
import Derived.Test.YtodnphnbnneegaaDoorPBaseD
import Derived.Test.YtodnphnbnneegaaDoorAddr
set_option linter.unusedVariables false
namespace Go.Proofs.YtodnphnbnneegaaDoor
open Go.RowKit VL

theorem fit_str {cs : List AV} (h : FitL [.str] cs) : ∃ s : ByteArray, s.size ≤ maxLen ∧ mkRow false cs = avStr s := by
  simp only [FitL, Fit] at h
  obtain ⟨_, _, rfl, ⟨s, rfl, hs⟩, rfl⟩ := h
  exact ⟨s, hs, rfl⟩

theorem fit_pfx {cs : List AV} (h : FitL [.int .u32, .int .i64] cs) : ∃ (a : Nat) (b : Int), a < 4294967296 ∧ mkRow true cs = avPfx a b := by
  simp only [FitL, Fit] at h
  obtain ⟨_, _, rfl, ⟨n, rfl, hw⟩, _, _, rfl, ⟨b, rfl, _⟩, rfl⟩ := h
  have hr : 0 ≤ n ∧ n < 4294967296 := by
    simp [Lit.wf, IntKind.min, IntKind.max, IntKind.bits, IntKind.signed] at hw
    omega
  exact ⟨n.toNat, b, by omega, by simp only [mkRow, avPfx, avU, Int.toNat_of_nonneg hr.1]⟩

end Go.Proofs.YtodnphnbnneegaaDoor
