import Derived.Test.YtjceingdmfogeaaDoorGb0
set_option linter.unusedVariables false
set_option linter.unusedSimpArgs false
namespace Go.Proofs.YtjceingdmfogeaaDoor
open Go.RowKit VL
theorem seatRanks_law : lawOf Tryd.prog Tryd.f3 8 = (true, some [([.sl false [.int .i64]], false)], true) := by kernel_rfl
theorem seatRanks_met (os : Os) (args : Array Value) : laidMetH Tryd.prog Rows.seatRanksRow.laid ((World.doorLaid Tryd.prog 142 os).forCall (fun _ _ => 0) ⟨#[], args, []⟩).memory :=
  laidMetH_of_parts3 (fuel := 8) (laidMet_of_run' 8 (by kernel_rfl) (by kernel_rfl)) (by kernel_rfl) (by kernel_rfl)
set_option maxRecDepth 100000 in
theorem seatRanks_lifted (os : Os) (started : os.Started) (H : Type) (enc : TypeId × Value → H) :
    ReturnsInHanded {} Tryd.checked os 3 .any (fun w args => (Rows.seatRanksSpec.pre enc Tryd.prog Tryd.f3 Rows.seatRanksRow.domain false w args ∧ laidMetH Tryd.prog Rows.seatRanksRow.laid w) ∧ sizedMet enc Tryd.prog Tryd.f3 (OpenSpec.ofChange Rows.seatRanksSpec) false w args)
      (Rows.seatRanksSpec.post enc Tryd.prog Tryd.f3 false true false false) := by
  refine returns_laid (C := Tryd.checked) (X := fun w _ => laidMetH Tryd.prog Rows.seatRanksRow.laid w) (fun _ _ _ hh h => h.of_heap hh) ownK started (by kernel_rfl) Tryd.func3
    (ChangeSpec.witness_shaped (enc := enc) (C := Tryd.checked) (os := os) (X := fun w _ => laidMetH Tryd.prog Rows.seatRanksRow.laid w) false (World.doorLaid Tryd.prog 142 os) #[.slice none 0 0] 8 rfl (World.shaped_of_RefB (by kernel_rfl) (by kernel_rfl)) (by kernel_rfl) (by kernel_rfl) (by kernel_rfl) (seatRanks_met os _)) ?_
  intro W base args ds gs before hval hW _ _ hL0 hS _
  have hL := hL0
  rw [MakeChecks.laidMetH_plain _ _ _ (by kernel_rfl)] at hL
  refine law_calls seatRanks_law rfl (fun ds h => ?_) hval hW (sentAt_of hL (by kernel_rfl)) (gokN _) fun xs hx => ?_
  · match ds, h with
    | [d0], _ => rfl
  · simp only [ArgsFit] at hx
    obtain ⟨c1, _, rfl, h1, rfl⟩ := hx
    obtain ⟨l, _, _, e1⟩ := fit_sliceP iI (fun _ => True) (fun cs h => by obtain ⟨x, _, e⟩ := fit_int h; exact ⟨x, trivial, e⟩) h1
    rw [e1]
    exact C_SeatRanks l
end Go.Proofs.YtjceingdmfogeaaDoor
