/- What rows that list no table ask: an integer of the library's. -/
import Derived.Test.YtodnphnbnneegaaDoorPBaseD
set_option linter.unusedVariables false
namespace Go.Proofs.YtodnphnbnneegaaDoor
open Go.RowKit VL

theorem gok0 {W : World} (hS : W.ShapedOpen Tryd.prog) : GOK fun g => W.heap[g]? := by
  obtain ⟨m, hm⟩ := cell_of_shapedOpen_int (g := 5) (t := 3) (zero := #[.int .i64 0]) (k := .i64) hS (of_decide_eq_true (by kernel_rfl)) (by kernel_rfl) rfl (by kernel_rfl) (by kernel_rfl) (by kernel_rfl)
  obtain ⟨cs, ty2, fr2, h2, h3⟩ := cells_of_cell hm
  refine ⟨fun q hq => ?_, fun g hg => ?_, fun g hg => ?_⟩
  · cases hq
  · simp only [GI, List.mem_singleton] at hg
    subst hg
    exact ⟨cs, ty2, fr2, m, h2, h3⟩
  · simp only [GB, GD, GI, List.map_nil, List.nil_append, List.mem_singleton] at hg
    subst hg
    exact ⟨_, h2⟩

end Go.Proofs.YtodnphnbnneegaaDoor
