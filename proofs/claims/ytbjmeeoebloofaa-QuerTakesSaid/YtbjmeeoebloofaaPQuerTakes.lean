/- rivulet/rivuletlaw13.QuerTakes: the statement. -/
import Derived.Test.YtbjmeeoebloofaaQuerTakes
import Derived.Test.YtbjmeeoebloofaaPBase
set_option linter.unusedVariables false
namespace Go.Proofs.Ytbjmeeoebloofaa
open Go.RowKit VL

theorem querTakes_law : lawOf Try.prog Try.f5 8 = (true, some [([.int .u32], false), ([.int .u32], false), ([.int .i64], false)], true) := by kernel_rfl

set_option maxRecDepth 100000 in
theorem querTakes_lifted (os : Os) (started : os.Started) (H : Type) (enc : TypeId × Value → H) :
    ReturnsInHanded {} Try.checked os 5 .any (Rows.querTakesSpec.pre6 enc Try.prog Try.f5 Rows.querTakesRow.domain false) (Rows.querTakesSpec.post enc Try.prog Try.f5 false true false false) := by
  refine returnsInHanded_of_change (C := Try.checked) ownK started (by kernel_rfl) Try.func5
    (ChangeSpec.witness6 (enc := enc) (C := Try.checked) false ⟨#[], #[.int .u32 0, .int .u32 0, .int .i64 0], []⟩ 8 (by kernel_rfl) (by kernel_rfl) (by kernel_rfl) (by kernel_rfl)) ?_
  intro W base args ds gs before hval hW _ _
  refine law_calls querTakes_law rfl (fun ds h => ?_) hval hW (fun g h => absurd h (by simp [GS])) fun xs hx => ?_
  · match ds, h with
    | [d0, d1, d2], _ => rfl
  · simp only [ArgsFit] at hx
    obtain ⟨c1, _, rfl, h1, c2, _, rfl, h2, c3, _, rfl, h3, rfl⟩ := hx
    obtain ⟨a, _, e1⟩ := fit_int h1
    obtain ⟨b, _, e2⟩ := fit_int h2
    obtain ⟨c, _, e3⟩ := fit_int h3
    rw [e1, e2, e3]
    exact AC_QuerTakes a b c

theorem querTakes_holds : Rows.QuerTakesSaid :=
  OpenClaim.holds_of_wide 5 Try.f5 rfl rfl rfl rfl rfl rfl rfl ⟨rfl, rfl, rfl, rfl, rfl⟩ rfl rfl rfl rfl rfl (by kernel_rfl) Try.func5 (by kernel_rfl)
    (of_decide_eq_true (by kernel_rfl)) (by unfold Func.isWrapper; first | (rw [if_pos (by decide +kernel)]; kernel_rfl) | (rw [if_neg (by decide +kernel)]; exact ⟨rfl, rfl⟩))
    (fun os started H enc _ => querTakes_lifted os started H enc)

end Go.Proofs.Ytbjmeeoebloofaa
