import Derived.Test.YtnndbbmidoidpaaGreatDoorGa16
set_option linter.unusedVariables false
set_option linter.unusedSimpArgs false
namespace Go.Proofs.YtnndbbmidoidpaaGreatDoor
open Go.RowKit VL
theorem topoSays_law : lawOf Tryz.prog Tryz.f3 8 = (true, some [(netT, true), ([.int .i64], false), ([.int .u32], false)], true) := by kernel_rfl
theorem topoSays_met (os : Os) (args : Array Value) : laidMetH Tryz.prog Rows.topoSaysRow.laid ((World.doorLaid Tryz.prog 338 os).forCall (fun _ _ => 0) ⟨#[], args, []⟩).memory :=
  laidMetH_of_parts3 (fuel := 8) (laidMet_of_run' 8 (by kernel_rfl) (by kernel_rfl)) (by kernel_rfl) (by kernel_rfl)
set_option maxRecDepth 100000 in
theorem topoSays_lifted (os : Os) (started : os.Started) (H : Type) (enc : TypeId × Value → H) :
    ReturnsInHanded {} Tryz.checked os 3 .any (fun w args => (Rows.topoSaysSpec.pre enc Tryz.prog Tryz.f3 Rows.topoSaysRow.domain false w args ∧ laidMetH Tryz.prog Rows.topoSaysRow.laid w) ∧ sizedMet enc Tryz.prog Tryz.f3 (OpenSpec.ofChange Rows.topoSaysSpec) false w args)
      (Rows.topoSaysSpec.post enc Tryz.prog Tryz.f3 false true false false) := by
  refine returns_laid (C := Tryz.checked) (X := fun w _ => laidMetH Tryz.prog Rows.topoSaysRow.laid w) (fun _ _ _ hh h => h.of_heap hh) ownK started (by kernel_rfl) Tryz.func3
    (ChangeSpec.witness_shaped (enc := enc) (C := Tryz.checked) (os := os) (X := fun w _ => laidMetH Tryz.prog Rows.topoSaysRow.laid w) false (World.doorLaid Tryz.prog 338 os) #[(.agg #[.slice none 0 0, .slice none 0 0, .slice none 0 0, .slice none 0 0, .slice none 0 0, .slice none 0 0, .slice none 0 0]), .int .i64 0, .int .u32 0] 8 rfl (World.shaped_of_RefB (by kernel_rfl) (by kernel_rfl)) (by kernel_rfl) (by kernel_rfl) (by kernel_rfl) (topoSays_met os _)) ?_
  intro W base args ds gs before hval hW _ _ hL0 hS _
  have hL := hL0
  rw [MakeChecks.laidMetH_plain _ _ _ (by kernel_rfl)] at hL
  refine law_calls topoSays_law rfl (fun ds h => ?_) hval hW (sentAt_of hL (by kernel_rfl)) (gokN _) fun xs hx => ?_
  · match ds, h with
    | [d0, d1, d2], _ => rfl
  · simp only [ArgsFit] at hx
    obtain ⟨c1, _, rfl, h1, c2, _, rfl, h2, c3, _, rfl, h3, rfl⟩ := hx
    obtain ⟨w, hw, e1⟩ := fit_net h1
    obtain ⟨n, _, e2⟩ := fit_int h2
    obtain ⟨a, _, e3⟩ := fit_u32 h3
    rw [e1, e2, e3]
    exact C_TopoSays w hw n a
end Go.Proofs.YtnndbbmidoidpaaGreatDoor
