import Derived.Test.YtjceingdmfogeaaDoorGa14
set_option linter.unusedVariables false
set_option linter.unusedSimpArgs false
namespace Go.Proofs.YtjceingdmfogeaaDoor
open Go.RowKit VL
theorem ribRings_law : lawOf Tryd.prog Tryd.f8 8 = (true, some [([.int .i64], false), ([.int .u32], false)], true) := by kernel_rfl
theorem ribRings_met (os : Os) (args : Array Value) : laidMetH Tryd.prog Rows.ribRingsRow.laid ((World.doorLaid Tryd.prog 142 os).forCall (fun _ _ => 0) ⟨#[], args, []⟩).memory :=
  laidMetH_of_parts3 (fuel := 8) (laidMet_of_run' 8 (by kernel_rfl) (by kernel_rfl)) (by kernel_rfl) (by kernel_rfl)
set_option maxRecDepth 100000 in
theorem ribRings_lifted (os : Os) (started : os.Started) (H : Type) (enc : TypeId × Value → H) :
    ReturnsInHanded {} Tryd.checked os 8 .any (fun w args => (Rows.ribRingsSpec.pre enc Tryd.prog Tryd.f8 Rows.ribRingsRow.domain false w args ∧ laidMetH Tryd.prog Rows.ribRingsRow.laid w) ∧ sizedMet enc Tryd.prog Tryd.f8 (OpenSpec.ofChange Rows.ribRingsSpec) false w args)
      (Rows.ribRingsSpec.post enc Tryd.prog Tryd.f8 false true false false) := by
  refine returns_laid (C := Tryd.checked) (X := fun w _ => laidMetH Tryd.prog Rows.ribRingsRow.laid w) (fun _ _ _ hh h => h.of_heap hh) ownK started (by kernel_rfl) Tryd.func8
    (ChangeSpec.witness_shaped (enc := enc) (C := Tryd.checked) (os := os) (X := fun w _ => laidMetH Tryd.prog Rows.ribRingsRow.laid w) false (World.doorLaid Tryd.prog 142 os) #[.int .i64 0, .int .u32 0] 8 rfl (World.shaped_of_RefB (by kernel_rfl) (by kernel_rfl)) (by kernel_rfl) (by kernel_rfl) (by kernel_rfl) (ribRings_met os _)) ?_
  intro W base args ds gs before hval hW _ _ hL0 hS _
  have hL := hL0
  rw [MakeChecks.laidMetH_plain _ _ _ (by kernel_rfl)] at hL
  refine law_calls ribRings_law rfl (fun ds h => ?_) hval hW (sentAt_of hL (by kernel_rfl)) (gokN _) fun xs hx => ?_
  · match ds, h with
    | [d0, d1], _ => rfl
  · simp only [ArgsFit] at hx
    obtain ⟨c1, _, rfl, h1, c2, _, rfl, h2, rfl⟩ := hx
    obtain ⟨a, _, e1⟩ := fit_int h1
    obtain ⟨b, hb, e2⟩ := fit_u32 h2
    rw [e1, e2]
    exact C_RibRings a b hb
end Go.Proofs.YtjceingdmfogeaaDoor
