/- rivuletlaw12.SeatOrder: the statement. -/
import Derived.Test.YtlaklpeghjanjaaRows
import Derived.Test.YtlaklpeghjanjaaVL22
import Derived.Test.YtlaklpeghjanjaaSeatOrder
import Derived.ProofKit
set_option linter.unusedVariables false
namespace Go.Proofs.Ytlaklpeghjanjaa
open Go.RowKit VL

theorem ownK : ownKnob Try.prog.godebug = none := by kernel_rfl
theorem seatOrder_law : lawOf Try.prog Try.f3 8 = (true, some [([.int .i64, .int .u32], true), ([.int .i64, .int .u32], true), ([.int .i64, .int .u32], true)], true) := by kernel_rfl

theorem fit_bid {cs : List AV} (h : FitL [.int .i64, .int .u32] cs) : ∃ p : Int × Int, mkRow true cs = avS p := by
  simp only [FitL, Fit] at h
  obtain ⟨_, _, rfl, ⟨a, rfl, _⟩, _, _, rfl, ⟨b, rfl, _⟩, rfl⟩ := h
  exact ⟨(a, b), rfl⟩

set_option maxRecDepth 100000 in
theorem seatOrder_lifted (os : Os) (started : os.Started) (H : Type) (enc : TypeId × Value → H) :
    ReturnsInHanded {} Try.checked os 3 .any (Rows.seatOrderSpec.pre6 enc Try.prog Try.f3 Rows.seatOrderRow.domain false) (Rows.seatOrderSpec.post enc Try.prog Try.f3 false true false false) := by
  refine returnsInHanded_of_change (C := Try.checked) ownK started (by kernel_rfl) Try.func3
    (ChangeSpec.witness6 (enc := enc) (C := Try.checked) false ⟨#[], #[.agg #[.int .i64 0, .int .u32 0], .agg #[.int .i64 0, .int .u32 0], .agg #[.int .i64 0, .int .u32 0]], []⟩ 8 (by kernel_rfl) (by kernel_rfl) (by kernel_rfl) (by kernel_rfl)) ?_
  intro W base args ds gs before hval hW _ _
  refine law_calls seatOrder_law rfl (fun ds h => ?_) hval hW (fun g h => absurd h (by simp [GS])) fun xs hx => ?_
  · match ds, h with
    | [a, b, c], _ => rfl
  · simp only [ArgsFit] at hx
    obtain ⟨c1, _, rfl, h1, c2, _, rfl, h2, c3, _, rfl, h3, rfl⟩ := hx
    obtain ⟨p, e1⟩ := fit_bid h1
    obtain ⟨q, e2⟩ := fit_bid h2
    obtain ⟨r, e3⟩ := fit_bid h3
    rw [e1, e2, e3]
    exact AC_SeatOrder p q r

theorem seatOrder_holds : Rows.SeatOrderSaid :=
  OpenClaim.holds_of_wide 3 Try.f3 rfl rfl rfl rfl rfl rfl rfl ⟨rfl, rfl, rfl, rfl, rfl⟩ rfl rfl rfl rfl rfl (by kernel_rfl) Try.func3 (by kernel_rfl)
    (of_decide_eq_true (by kernel_rfl)) (by unfold Func.isWrapper; first | (rw [if_pos (by decide +kernel)]; kernel_rfl) | (rw [if_neg (by decide +kernel)]; exact ⟨rfl, rfl⟩))
    (fun os started H enc _ => seatOrder_lifted os started H enc)

end Go.Proofs.Ytlaklpeghjanjaa
