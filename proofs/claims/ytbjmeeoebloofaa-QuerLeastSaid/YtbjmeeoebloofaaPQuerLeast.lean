/- rivulet/rivuletlaw13.QuerLeast: the statement. -/
import Derived.Test.YtbjmeeoebloofaaQuerLeast
import Derived.Test.YtbjmeeoebloofaaPBase
set_option linter.unusedVariables false
namespace Go.Proofs.Ytbjmeeoebloofaa
open Go.RowKit VL

theorem querLeast_law : lawOf Try.prog Try.f6 8 = (true, some [([.sl false [.int .u32]], false), ([.int .u32], false)], true) := by kernel_rfl

set_option maxRecDepth 100000 in
theorem querLeast_lifted (os : Os) (started : os.Started) (H : Type) (enc : TypeId × Value → H) :
    ReturnsInHanded {} Try.checked os 6 .any (Rows.querLeastSpec.pre6 enc Try.prog Try.f6 Rows.querLeastRow.domain false) (Rows.querLeastSpec.post enc Try.prog Try.f6 false true false false) := by
  refine returnsInHanded_of_change (C := Try.checked) ownK started (by kernel_rfl) Try.func6
    (ChangeSpec.witness6 (enc := enc) (C := Try.checked) false ⟨#[], #[.slice none 0 0, .int .u32 0], []⟩ 8 (by kernel_rfl) (by kernel_rfl) (by kernel_rfl) (by kernel_rfl)) ?_
  intro W base args ds gs before hval hW _ _
  refine law_calls querLeast_law rfl (fun ds h => ?_) hval hW (fun g h => absurd h (by simp [GS])) fun xs hx => ?_
  · match ds, h with
    | [d0, d1], _ => rfl
  · simp only [ArgsFit] at hx
    obtain ⟨c1, _, rfl, h1, c2, _, rfl, h2, rfl⟩ := hx
    have fa : ∀ cs, FitL [.int .u32] cs → ∃ n : Int, mkRow false cs = avI n := fun cs h => by
      obtain ⟨n, _, e⟩ := fit_int h
      exact ⟨n, e⟩
    obtain ⟨l, hm, e1⟩ := fit_slice avI fa h1
    obtain ⟨a, e2⟩ := fa _ h2
    rw [e1, e2]
    exact AC_QuerLeast l a

theorem querLeast_holds : Rows.QuerLeastSaid :=
  OpenClaim.holds_of_wide 6 Try.f6 rfl rfl rfl rfl rfl rfl rfl ⟨rfl, rfl, rfl, rfl, rfl⟩ rfl rfl rfl rfl rfl (by kernel_rfl) Try.func6 (by kernel_rfl)
    (of_decide_eq_true (by kernel_rfl)) (by unfold Func.isWrapper; first | (rw [if_pos (by decide +kernel)]; kernel_rfl) | (rw [if_neg (by decide +kernel)]; exact ⟨rfl, rfl⟩))
    (fun os started H enc _ => querLeast_lifted os started H enc)

end Go.Proofs.Ytbjmeeoebloofaa
