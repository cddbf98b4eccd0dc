/- rivulet/rivuletlaw14.FiltLets: the statement. -/
import Derived.Test.YtmjmfollimaleaaFiltLets
import Derived.Test.YtmjmfollimaleaaPFilt
import Derived.Test.YtmjmfollimaleaaPBase
import Derived.Test.YtmjmfollimaleaaPGokN
set_option linter.unusedVariables false
namespace Go.Proofs.Ytmjmfollimaleaa
open Go.RowKit VL

theorem filtLets_law : lawOf Try.prog Try.f5 8 = (true, some [([.sl true [.int .i64, .int .u32, .bool, .sl false [.int .u32]]], false), ([.int .i64, .int .u32, .bool, .sl false [.int .u32]], true), ([.int .u32], false), ([.int .i64], false)], true) := by kernel_rfl

set_option maxRecDepth 100000 in
theorem filtLets_lifted (os : Os) (started : os.Started) (H : Type) (enc : TypeId × Value → H) :
    ReturnsInHanded {} Try.checked os 5 .any (Rows.filtLetsSpec.pre6 enc Try.prog Try.f5 Rows.filtLetsRow.domain false) (Rows.filtLetsSpec.post enc Try.prog Try.f5 false true false false) := by
  refine returnsInHanded_of_change (C := Try.checked) ownK started (by kernel_rfl) Try.func5
    (ChangeSpec.witness6 (enc := enc) (C := Try.checked) false ⟨#[], #[.slice none 0 0, .agg #[.int .i64 0, .int .u32 0, .bool false, .slice none 0 0], .int .u32 0, .int .i64 0], []⟩ 8 (by kernel_rfl) (by kernel_rfl) (by kernel_rfl) (by kernel_rfl)) ?_
  intro W base args ds gs before hval hW _ _
  refine law_calls filtLets_law rfl (fun ds h => ?_) hval hW (.none rfl) (gokN _) fun xs hx => ?_
  · match ds, h with
    | [d0, d1, d2, d3], _ => rfl
  · simp only [ArgsFit] at hx
    obtain ⟨c1, _, rfl, h1, c2, _, rfl, h2, c3, _, rfl, h3, c4, _, rfl, h4, rfl⟩ := hx
    obtain ⟨l, hl, e1⟩ := fit_mems h1
    obtain ⟨lk, g, only, ms, hm, e2⟩ := fit_mem h2
    obtain ⟨a, _, e3⟩ := fit_int h3
    obtain ⟨k, _, e4⟩ := fit_int h4
    rw [e1, e2, e3, e4]
    exact C_FiltLets l lk g only ms a k (Nat.lt_of_le_of_lt hl (by decide)) (Nat.lt_of_le_of_lt hm (by decide))

theorem filtLets_holds : Rows.FiltLetsSaid :=
  OpenClaim.holds_of_wide 5 Try.f5 rfl rfl rfl rfl rfl rfl rfl ⟨rfl, rfl, rfl, rfl, rfl⟩ rfl rfl rfl rfl rfl (by kernel_rfl) Try.func5 (by kernel_rfl)
    (of_decide_eq_true (by kernel_rfl)) (by unfold Func.isWrapper; first | (rw [if_pos (by decide +kernel)]; kernel_rfl) | (rw [if_neg (by decide +kernel)]; exact ⟨rfl, rfl⟩))
    (fun os started H enc _ => filtLets_lifted os started H enc)

end Go.Proofs.Ytmjmfollimaleaa
