/- rivulet/rivuletlaw13.QuerOne: the statement. -/
import Derived.Test.YtodnphnbnneegaaQuerOne
import Derived.Test.YtodnphnbnneegaaPBase
set_option linter.unusedVariables false
namespace Go.Proofs.Ytodnphnbnneegaa
open Go.RowKit VL

theorem querOne_law : lawOf Try.prog Try.f7 8 = (true, some [([.int .i64], false), ([.int .i64], false), ([.int .i64], false)], true) := by kernel_rfl

set_option maxRecDepth 100000 in
theorem querOne_lifted (os : Os) (started : os.Started) (H : Type) (enc : TypeId × Value → H) :
    ReturnsInHanded {} Try.checked os 7 .any (Rows.querOneSpec.pre6 enc Try.prog Try.f7 Rows.querOneRow.domain false) (Rows.querOneSpec.post enc Try.prog Try.f7 false true false false) := by
  refine returnsInHanded_of_change (C := Try.checked) ownK started (by kernel_rfl) Try.func7
    (ChangeSpec.witness6 (enc := enc) (C := Try.checked) false ⟨#[], #[.int .i64 0, .int .i64 0, .int .i64 0], []⟩ 8 (by kernel_rfl) (by kernel_rfl) (by kernel_rfl) (by kernel_rfl)) ?_
  intro W base args ds gs before hval hW _ _
  refine law_calls querOne_law rfl (fun ds h => ?_) hval hW (fun g h => absurd h (by simp [GS])) fun xs hx => ?_
  · match ds, h with
    | [d0, d1, d2], _ => rfl
  · simp only [ArgsFit] at hx
    obtain ⟨c1, _, rfl, h1, c2, _, rfl, h2, c3, _, rfl, h3, rfl⟩ := hx
    obtain ⟨a, _, e1⟩ := fit_int h1
    obtain ⟨b, _, e2⟩ := fit_int h2
    obtain ⟨c, _, e3⟩ := fit_int h3
    rw [e1, e2, e3]
    exact AC_QuerOne a b c

theorem querOne_holds : Rows.QuerOneSaid :=
  OpenClaim.holds_of_wide 7 Try.f7 rfl rfl rfl rfl rfl rfl rfl ⟨rfl, rfl, rfl, rfl, rfl⟩ rfl rfl rfl rfl rfl (by kernel_rfl) Try.func7 (by kernel_rfl)
    (of_decide_eq_true (by kernel_rfl)) (by unfold Func.isWrapper; first | (rw [if_pos (by decide +kernel)]; kernel_rfl) | (rw [if_neg (by decide +kernel)]; exact ⟨rfl, rfl⟩))
    (fun os started H enc _ => querOne_lifted os started H enc)

end Go.Proofs.Ytodnphnbnneegaa
