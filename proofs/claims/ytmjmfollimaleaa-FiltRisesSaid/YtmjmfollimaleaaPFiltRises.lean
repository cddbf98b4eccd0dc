/- rivulet/rivuletlaw14.FiltRises: the statement. -/
import Derived.Test.YtmjmfollimaleaaFiltRises
import Derived.Test.YtmjmfollimaleaaPFilt
import Derived.Test.YtmjmfollimaleaaPBase
import Derived.Test.YtmjmfollimaleaaPGokN
set_option linter.unusedVariables false
namespace Go.Proofs.Ytmjmfollimaleaa
open Go.RowKit VL

theorem filtRises_law : lawOf Try.prog Try.f6 8 = (true, some [([.sl true [.int .i64, .int .u32, .bool, .sl false [.int .u32]]], false), ([.int .i64], false)], true) := by kernel_rfl

set_option maxRecDepth 100000 in
theorem filtRises_lifted (os : Os) (started : os.Started) (H : Type) (enc : TypeId × Value → H) :
    ReturnsInHanded {} Try.checked os 6 .any (Rows.filtRisesSpec.pre6 enc Try.prog Try.f6 Rows.filtRisesRow.domain false) (Rows.filtRisesSpec.post enc Try.prog Try.f6 false true false false) := by
  refine returnsInHanded_of_change (C := Try.checked) ownK started (by kernel_rfl) Try.func6
    (ChangeSpec.witness6 (enc := enc) (C := Try.checked) false ⟨#[], #[.slice none 0 0, .int .i64 0], []⟩ 8 (by kernel_rfl) (by kernel_rfl) (by kernel_rfl) (by kernel_rfl)) ?_
  intro W base args ds gs before hval hW _ _
  refine law_calls filtRises_law rfl (fun ds h => ?_) hval hW (.none rfl) (gokN _) fun xs hx => ?_
  · match ds, h with
    | [d0, d1], _ => rfl
  · simp only [ArgsFit] at hx
    obtain ⟨c1, _, rfl, h1, c2, _, rfl, h2, rfl⟩ := hx
    obtain ⟨l, hl, e1⟩ := fit_mems h1
    obtain ⟨k, _, e2⟩ := fit_int h2
    rw [e1, e2]
    exact C_FiltRises l k (Nat.lt_of_le_of_lt hl (by decide))

theorem filtRises_holds : Rows.FiltRisesSaid :=
  OpenClaim.holds_of_wide 6 Try.f6 rfl rfl rfl rfl rfl rfl rfl ⟨rfl, rfl, rfl, rfl, rfl⟩ rfl rfl rfl rfl rfl (by kernel_rfl) Try.func6 (by kernel_rfl)
    (of_decide_eq_true (by kernel_rfl)) (by unfold Func.isWrapper; first | (rw [if_pos (by decide +kernel)]; kernel_rfl) | (rw [if_neg (by decide +kernel)]; exact ⟨rfl, rfl⟩))
    (fun os started H enc _ => filtRises_lifted os started H enc)

end Go.Proofs.Ytmjmfollimaleaa
