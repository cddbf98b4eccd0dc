/- rivulet/rivuletlaw14.FiltOnes: the statement. -/
import Derived.Test.YtmjmfollimaleaaFiltOnes
import Derived.Test.YtmjmfollimaleaaPFilt
import Derived.Test.YtmjmfollimaleaaPBase
import Derived.Test.YtmjmfollimaleaaPGokN
set_option linter.unusedVariables false
namespace Go.Proofs.Ytmjmfollimaleaa
open Go.RowKit VL

theorem filtOnes_law : lawOf Try.prog Try.f3 8 = (true, some [([.int .i64, .int .u32, .bool, .sl false [.int .u32]], true), ([.int .u32], false), ([.int .u32], false)], true) := by kernel_rfl

set_option maxRecDepth 100000 in
theorem filtOnes_lifted (os : Os) (started : os.Started) (H : Type) (enc : TypeId × Value → H) :
    ReturnsInHanded {} Try.checked os 3 .any (Rows.filtOnesSpec.pre6 enc Try.prog Try.f3 Rows.filtOnesRow.domain false) (Rows.filtOnesSpec.post enc Try.prog Try.f3 false true false false) := by
  refine returnsInHanded_of_change (C := Try.checked) ownK started (by kernel_rfl) Try.func3
    (ChangeSpec.witness6 (enc := enc) (C := Try.checked) false ⟨#[], #[.agg #[.int .i64 0, .int .u32 0, .bool false, .slice none 0 0], .int .u32 0, .int .u32 0], []⟩ 8 (by kernel_rfl) (by kernel_rfl) (by kernel_rfl) (by kernel_rfl)) ?_
  intro W base args ds gs before hval hW _ _
  refine law_calls filtOnes_law rfl (fun ds h => ?_) hval hW (.none rfl) (gokN _) fun xs hx => ?_
  · match ds, h with
    | [d0, d1, d2], _ => rfl
  · simp only [ArgsFit] at hx
    obtain ⟨c1, _, rfl, h1, c2, _, rfl, h2, c3, _, rfl, h3, rfl⟩ := hx
    obtain ⟨lk, g, only, l, hl, e1⟩ := fit_mem h1
    obtain ⟨a, _, e2⟩ := fit_int h2
    obtain ⟨b, _, e3⟩ := fit_int h3
    rw [e1, e2, e3]
    exact C_FiltOnes lk g only l a b (by simp only [maxLen] at hl; omega)

theorem filtOnes_holds : Rows.FiltOnesSaid :=
  OpenClaim.holds_of_wide 3 Try.f3 rfl rfl rfl rfl rfl rfl rfl ⟨rfl, rfl, rfl, rfl, rfl⟩ rfl rfl rfl rfl rfl (by kernel_rfl) Try.func3 (by kernel_rfl)
    (of_decide_eq_true (by kernel_rfl)) (by unfold Func.isWrapper; first | (rw [if_pos (by decide +kernel)]; kernel_rfl) | (rw [if_neg (by decide +kernel)]; exact ⟨rfl, rfl⟩))
    (fun os started H enc _ => filtOnes_lifted os started H enc)

end Go.Proofs.Ytmjmfollimaleaa
