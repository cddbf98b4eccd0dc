/- rivulet/rivuletlaw14.FiltSays: the statement. -/
import Derived.Test.YtmjmfollimaleaaFiltSays
import Derived.Test.YtmjmfollimaleaaPFilt
import Derived.Test.YtmjmfollimaleaaPBase
import Derived.Test.YtmjmfollimaleaaPGokN
set_option linter.unusedVariables false
namespace Go.Proofs.Ytmjmfollimaleaa
open Go.RowKit VL

theorem filtSays_law : lawOf Try.prog Try.f7 8 = (true, some [([.sl true [.int .i64, .int .u32, .bool, .sl false [.int .u32]]], false), ([.bool, .sl false [.int .u32]], true), ([.int .u32], false), ([.int .u32], false)], true) := by kernel_rfl

set_option maxRecDepth 100000 in
theorem filtSays_lifted (os : Os) (started : os.Started) (H : Type) (enc : TypeId × Value → H) :
    ReturnsInHanded {} Try.checked os 7 .any (Rows.filtSaysSpec.pre6 enc Try.prog Try.f7 Rows.filtSaysRow.domain false) (Rows.filtSaysSpec.post enc Try.prog Try.f7 false true false false) := by
  refine returnsInHanded_of_change (C := Try.checked) ownK started (by kernel_rfl) Try.func7
    (ChangeSpec.witness6 (enc := enc) (C := Try.checked) false ⟨#[], #[.slice none 0 0, .agg #[.bool false, .slice none 0 0], .int .u32 0, .int .u32 0], []⟩ 8 (by kernel_rfl) (by kernel_rfl) (by kernel_rfl) (by kernel_rfl)) ?_
  intro W base args ds gs before hval hW _ _
  refine law_calls filtSays_law rfl (fun ds h => ?_) hval hW (.none rfl) (gokN _) fun xs hx => ?_
  · match ds, h with
    | [d0, d1, d2, d3], _ => rfl
  · simp only [ArgsFit] at hx
    obtain ⟨c1, _, rfl, h1, c2, _, rfl, h2, c3, _, rfl, h3, c4, _, rfl, h4, rfl⟩ := hx
    obtain ⟨l, hl, e1⟩ := fit_mems h1
    obtain ⟨any, fs, hm, e2⟩ := fit_flt h2
    obtain ⟨a, _, e3⟩ := fit_int h3
    obtain ⟨g, _, e4⟩ := fit_int h4
    rw [e1, e2, e3, e4]
    exact C_FiltSays l any fs a g (Nat.lt_of_le_of_lt hl (by decide))

theorem filtSays_holds : Rows.FiltSaysSaid :=
  OpenClaim.holds_of_wide 7 Try.f7 rfl rfl rfl rfl rfl rfl rfl ⟨rfl, rfl, rfl, rfl, rfl⟩ rfl rfl rfl rfl rfl (by kernel_rfl) Try.func7 (by kernel_rfl)
    (of_decide_eq_true (by kernel_rfl)) (by unfold Func.isWrapper; first | (rw [if_pos (by decide +kernel)]; kernel_rfl) | (rw [if_neg (by decide +kernel)]; exact ⟨rfl, rfl⟩))
    (fun os started H enc _ => filtSays_lifted os started H enc)

end Go.Proofs.Ytmjmfollimaleaa
