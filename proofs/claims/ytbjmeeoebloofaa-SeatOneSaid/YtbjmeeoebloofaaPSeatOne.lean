/- rivulet/rivuletlaw12.SeatOne: the statement. -/
import Derived.Test.YtbjmeeoebloofaaSeatOne
import Derived.Test.YtbjmeeoebloofaaPBase
set_option linter.unusedVariables false
namespace Go.Proofs.Ytbjmeeoebloofaa
open Go.RowKit VL

theorem seatOne_law : lawOf Try.prog Try.f4 8 = (true, some [([.sl true [.int .i64, .int .u32]], false), ([.int .i64, .int .u32], true)], true) := by kernel_rfl

set_option maxRecDepth 100000 in
theorem seatOne_lifted (os : Os) (started : os.Started) (H : Type) (enc : TypeId × Value → H) :
    ReturnsInHanded {} Try.checked os 4 .any (Rows.seatOneSpec.pre6 enc Try.prog Try.f4 Rows.seatOneRow.domain false) (Rows.seatOneSpec.post enc Try.prog Try.f4 false true false false) := by
  refine returnsInHanded_of_change (C := Try.checked) ownK started (by kernel_rfl) Try.func4
    (ChangeSpec.witness6 (enc := enc) (C := Try.checked) false ⟨#[], #[.slice none 0 0, .agg #[.int .i64 0, .int .u32 0]], []⟩ 8 (by kernel_rfl) (by kernel_rfl) (by kernel_rfl) (by kernel_rfl)) ?_
  intro W base args ds gs before hval hW _ _
  refine law_calls seatOne_law rfl (fun ds h => ?_) hval hW (fun g h => absurd h (by simp [GS])) fun xs hx => ?_
  · match ds, h with
    | [d0, d1], _ => rfl
  · simp only [ArgsFit] at hx
    obtain ⟨c1, _, rfl, h1, c2, _, rfl, h2, rfl⟩ := hx
    have fb : ∀ cs, FitL [.int .i64, .int .u32] cs → ∃ p : Int × Int, mkRow true cs = avS p := by
      intro cs h
      simp only [FitL, Fit] at h
      obtain ⟨_, _, rfl, ⟨a, rfl, _⟩, _, _, rfl, ⟨b, rfl, _⟩, rfl⟩ := h
      exact ⟨(a, b), rfl⟩
    obtain ⟨l, hm, e1⟩ := fit_slice avS fb h1
    obtain ⟨a, e2⟩ := fb _ h2
    rw [e1, e2]
    exact AC_SeatOne l a

theorem seatOne_holds : Rows.SeatOneSaid :=
  OpenClaim.holds_of_wide 4 Try.f4 rfl rfl rfl rfl rfl rfl rfl ⟨rfl, rfl, rfl, rfl, rfl⟩ rfl rfl rfl rfl rfl (by kernel_rfl) Try.func4 (by kernel_rfl)
    (of_decide_eq_true (by kernel_rfl)) (by unfold Func.isWrapper; first | (rw [if_pos (by decide +kernel)]; kernel_rfl) | (rw [if_neg (by decide +kernel)]; exact ⟨rfl, rfl⟩))
    (fun os started H enc _ => seatOne_lifted os started H enc)

end Go.Proofs.Ytbjmeeoebloofaa
