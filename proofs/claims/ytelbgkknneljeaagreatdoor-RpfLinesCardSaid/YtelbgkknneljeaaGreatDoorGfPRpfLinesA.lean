import Derived.Test.YtelbgkknneljeaaGreatDoorGf0
set_option linter.unusedVariables false
set_option linter.unusedSimpArgs false
namespace Go.Proofs.YtelbgkknneljeaaGreatDoor
open Go.RowKit VL
theorem rpfLines_law : lawOf Tryz.prog Tryz.f4 8 = (true, some [([.int .i64], false), ([.int .i64], false), ([.int .i64], false)], true) := by kernel_rfl
theorem rpfLines_met (os : Os) (args : Array Value) : laidMetH Tryz.prog Rows.rpfLinesRow.laid ((World.doorLaid Tryz.prog 142 os).forCall (fun _ _ => 0) ⟨#[], args, []⟩).memory :=
  laidMetH_of_parts3 (fuel := 8) (laidMet_of_run' 8 (by kernel_rfl) (by kernel_rfl)) (by kernel_rfl) (by kernel_rfl)
set_option maxRecDepth 100000 in
theorem rpfLines_lifted (os : Os) (started : os.Started) (H : Type) (enc : TypeId × Value → H) :
    ReturnsInHanded {} Tryz.checked os 4 .any (fun w args => (Rows.rpfLinesSpec.pre enc Tryz.prog Tryz.f4 Rows.rpfLinesRow.domain false w args ∧ laidMetH Tryz.prog Rows.rpfLinesRow.laid w) ∧ sizedMet enc Tryz.prog Tryz.f4 (OpenSpec.ofChange Rows.rpfLinesSpec) false w args)
      (Rows.rpfLinesSpec.post enc Tryz.prog Tryz.f4 false true false false) := by
  refine returns_laid (C := Tryz.checked) (X := fun w _ => laidMetH Tryz.prog Rows.rpfLinesRow.laid w) (fun _ _ _ hh h => h.of_heap hh) ownK started (by kernel_rfl) Tryz.func4
    (ChangeSpec.witness_shaped (enc := enc) (C := Tryz.checked) (os := os) (X := fun w _ => laidMetH Tryz.prog Rows.rpfLinesRow.laid w) false (World.doorLaid Tryz.prog 142 os) #[.int .i64 0, .int .i64 0, .int .i64 0] 8 rfl (World.shaped_of_RefB (by kernel_rfl) (by kernel_rfl)) (by kernel_rfl) (by kernel_rfl) (by kernel_rfl) (rpfLines_met os _)) ?_
  intro W base args ds gs before hval hW _ _ hL0 hS _
  have hL := hL0
  rw [MakeChecks.laidMetH_plain _ _ _ (by kernel_rfl)] at hL
  refine law_calls rpfLines_law rfl (fun ds h => ?_) hval hW (sentAt_of hL (by kernel_rfl)) (gokN _) fun xs hx => ?_
  · match ds, h with
    | [d0, d1, d2], _ => rfl
  · simp only [ArgsFit] at hx
    obtain ⟨c1, _, rfl, h1, c2, _, rfl, h2, c3, _, rfl, h3, rfl⟩ := hx
    obtain ⟨a, _, e1⟩ := fit_int h1
    obtain ⟨b, _, e2⟩ := fit_int h2
    obtain ⟨c, _, e3⟩ := fit_int h3
    rw [e1, e2, e3]
    exact C_RpfLines a b c
end Go.Proofs.YtelbgkknneljeaaGreatDoor
