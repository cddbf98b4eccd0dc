/- What the rows of chapter 1 list, and what their walks ask of it. -/
import Derived.Test.YtodnphnbnneegaaDoorPBaseD
import Derived.Test.YtodnphnbnneegaaDoorShelf
import Derived.Stop.LaidErr
set_option linter.unusedVariables false
namespace Go.Proofs.YtodnphnbnneegaaDoor
open Go.RowKit VL

theorem gok_of {W : World} {n0 n1 : String} {d0 d1 : DataW Unit} {rest : List (String × DataW Unit)} (hL : laidMet Tryd.prog ((n0, d0) :: (n1, d1) :: ("internal/strconv.uint64pow10", Rows.laid_internal_strconv_uint64pow10) :: rest) W) (hS : W.ShapedOpen Tryd.prog) :
    GOK fun g => W.heap[g]? := by
  have hT : Lib.TabIs Tryd.prog W "internal/strconv.uint64pow10" .u64 Lib.pow10Tab := by
    have h2 := laidMet.tail (laidMet.tail hL)
    exact Lib.tabIs_of_head (t := 148) (e := 132) (n := 20) (g := 17) (by kernel_rfl) (by kernel_rfl) (by kernel_rfl) (by kernel_rfl) (by kernel_rfl) (by kernel_rfl) h2
  obtain ⟨ty, fr, hh⟩ := cells_of_var (g := 17) (by kernel_rfl) hT
  obtain ⟨m, hm⟩ := cell_of_shapedOpen_int (g := 5) (t := 3) (zero := #[.int .i64 0]) (k := .i64) hS (of_decide_eq_true (by kernel_rfl)) (by kernel_rfl) rfl (by kernel_rfl) (by kernel_rfl) (by kernel_rfl)
  obtain ⟨cs, ty2, fr2, h2, h3⟩ := cells_of_cell hm
  refine ⟨fun q hq => ?_, fun g hg => ?_, fun g hg => ?_⟩
  · simp only [GD, List.mem_singleton] at hq
    subst hq
    exact ⟨ty, fr, hh⟩
  · simp only [GI, List.mem_singleton] at hg
    subst hg
    exact ⟨cs, ty2, fr2, m, h2, h3⟩
  · simp only [GB, GD, GI, List.map_cons, List.map_nil, List.mem_append, List.mem_singleton] at hg
    rcases hg with rfl | rfl
    · exact ⟨_, hh⟩
    · exact ⟨_, h2⟩

end Go.Proofs.YtodnphnbnneegaaDoor
