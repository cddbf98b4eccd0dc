/- rivulet/rivuletlaw14.FiltKeys: the statement. -/
import Derived.Test.YtmjmfollimaleaaFiltKeys
import Derived.Test.YtmjmfollimaleaaPFilt
import Derived.Test.YtmjmfollimaleaaPBase
import Derived.Test.YtmjmfollimaleaaPGokN
set_option linter.unusedVariables false
namespace Go.Proofs.Ytmjmfollimaleaa
open Go.RowKit VL

theorem filtKeys_law : lawOf Try.prog Try.f4 8 = (true, some [([.sl true [.int .i64, .int .u32, .bool, .sl false [.int .u32]]], false), ([.int .u32], false), ([.int .u32], false)], true) := by kernel_rfl

set_option maxRecDepth 100000 in
theorem filtKeys_lifted (os : Os) (started : os.Started) (H : Type) (enc : TypeId × Value → H) :
    ReturnsInHanded {} Try.checked os 4 .any (Rows.filtKeysSpec.pre6 enc Try.prog Try.f4 Rows.filtKeysRow.domain false) (Rows.filtKeysSpec.post enc Try.prog Try.f4 false true false false) := by
  refine returnsInHanded_of_change (C := Try.checked) ownK started (by kernel_rfl) Try.func4
    (ChangeSpec.witness6 (enc := enc) (C := Try.checked) false ⟨#[], #[.slice none 0 0, .int .u32 0, .int .u32 0], []⟩ 8 (by kernel_rfl) (by kernel_rfl) (by kernel_rfl) (by kernel_rfl)) ?_
  intro W base args ds gs before hval hW _ _
  refine law_calls filtKeys_law rfl (fun ds h => ?_) hval hW (.none rfl) (gokN _) fun xs hx => ?_
  · match ds, h with
    | [d0, d1, d2], _ => rfl
  · simp only [ArgsFit] at hx
    obtain ⟨c1, _, rfl, h1, c2, _, rfl, h2, c3, _, rfl, h3, rfl⟩ := hx
    obtain ⟨l, hl, e1⟩ := fit_mems h1
    obtain ⟨g, _, e2⟩ := fit_int h2
    obtain ⟨a, _, e3⟩ := fit_int h3
    rw [e1, e2, e3]
    exact C_FiltKeys l g a (by simp only [maxLen] at hl; omega)

theorem filtKeys_holds : Rows.FiltKeysSaid :=
  OpenClaim.holds_of_wide 4 Try.f4 rfl rfl rfl rfl rfl rfl rfl ⟨rfl, rfl, rfl, rfl, rfl⟩ rfl rfl rfl rfl rfl (by kernel_rfl) Try.func4 (by kernel_rfl)
    (of_decide_eq_true (by kernel_rfl)) (by unfold Func.isWrapper; first | (rw [if_pos (by decide +kernel)]; kernel_rfl) | (rw [if_neg (by decide +kernel)]; exact ⟨rfl, rfl⟩))
    (fun os started H enc _ => filtKeys_lifted os started H enc)

end Go.Proofs.Ytmjmfollimaleaa
