import Derived.Test.YtjceingdmfogeaaGreatDoorGa14
set_option linter.unusedVariables false
set_option linter.unusedSimpArgs false
namespace Go.Proofs.YtjceingdmfogeaaGreatDoor
open Go.RowKit VL
theorem rpfRings_law : lawOf Tryz.prog Tryz.f4 8 = (true, some [([.int .i64], false), ([.int .i64], false), ([.bool], false)], true) := by kernel_rfl
theorem rpfRings_met (os : Os) (args : Array Value) : laidMetH Tryz.prog Rows.rpfRingsRow.laid ((World.doorLaid Tryz.prog 157 os).forCall (fun _ _ => 0) ⟨#[], args, []⟩).memory :=
  laidMetH_of_parts3 (fuel := 8) (laidMet_of_run' 8 (by kernel_rfl) (by kernel_rfl)) (by kernel_rfl) (by kernel_rfl)
set_option maxRecDepth 100000 in
theorem rpfRings_lifted (os : Os) (started : os.Started) (H : Type) (enc : TypeId × Value → H) :
    ReturnsInHanded {} Tryz.checked os 4 .any (fun w args => (Rows.rpfRingsSpec.pre enc Tryz.prog Tryz.f4 Rows.rpfRingsRow.domain false w args ∧ laidMetH Tryz.prog Rows.rpfRingsRow.laid w) ∧ sizedMet enc Tryz.prog Tryz.f4 (OpenSpec.ofChange Rows.rpfRingsSpec) false w args)
      (Rows.rpfRingsSpec.post enc Tryz.prog Tryz.f4 false true false false) := by
  refine returns_laid (C := Tryz.checked) (X := fun w _ => laidMetH Tryz.prog Rows.rpfRingsRow.laid w) (fun _ _ _ hh h => h.of_heap hh) ownK started (by kernel_rfl) Tryz.func4
    (ChangeSpec.witness_shaped (enc := enc) (C := Tryz.checked) (os := os) (X := fun w _ => laidMetH Tryz.prog Rows.rpfRingsRow.laid w) false (World.doorLaid Tryz.prog 157 os) #[.int .i64 0, .int .i64 0, .bool false] 8 rfl (World.shaped_of_RefB (by kernel_rfl) (by kernel_rfl)) (by kernel_rfl) (by kernel_rfl) (by kernel_rfl) (rpfRings_met os _)) ?_
  intro W base args ds gs before hval hW _ _ hL0 hS _
  have hL := hL0
  rw [MakeChecks.laidMetH_plain _ _ _ (by kernel_rfl)] at hL
  refine law_calls rpfRings_law rfl (fun ds h => ?_) hval hW (sentAt_of hL (by kernel_rfl)) (gokN _) fun xs hx => ?_
  · match ds, h with
    | [d0, d1, d2], _ => rfl
  · simp only [ArgsFit] at hx
    obtain ⟨c1, _, rfl, h1, c2, _, rfl, h2, c3, _, rfl, h3, rfl⟩ := hx
    obtain ⟨a, _, e1⟩ := fit_int h1
    obtain ⟨b, _, e2⟩ := fit_int h2
    obtain ⟨c, e3⟩ := fit_bool h3
    rw [e1, e2, e3]
    exact C_RpfRings a b c
end Go.Proofs.YtjceingdmfogeaaGreatDoor
