import Derived.Test.YtelbgkknneljeaaGreatDoorGe13
set_option linter.unusedVariables false
set_option linter.unusedSimpArgs false
namespace Go.Proofs.YtelbgkknneljeaaGreatDoor
open Go.RowKit VL
theorem rpfSays_law : lawOf Tryz.prog Tryz.f7 8 = (true, some [(netT, true), ([.int .i64], false), ([.sl false [.int .u32]], false), ([.int .u32, .int .u32], true)], true) := by kernel_rfl
theorem rpfSays_met (os : Os) (args : Array Value) : laidMetH Tryz.prog Rows.rpfSaysRow.laid ((World.doorLaid Tryz.prog 142 os).forCall (fun _ _ => 0) ⟨#[], args, []⟩).memory :=
  laidMetH_of_parts3 (fuel := 8) (laidMet_of_run' 8 (by kernel_rfl) (by kernel_rfl)) (by kernel_rfl) (by kernel_rfl)
set_option maxRecDepth 100000 in
theorem rpfSays_lifted (os : Os) (started : os.Started) (H : Type) (enc : TypeId × Value → H) :
    ReturnsInHanded {} Tryz.checked os 7 .any (fun w args => (Rows.rpfSaysSpec.pre enc Tryz.prog Tryz.f7 Rows.rpfSaysRow.domain false w args ∧ laidMetH Tryz.prog Rows.rpfSaysRow.laid w) ∧ sizedMet enc Tryz.prog Tryz.f7 (OpenSpec.ofChange Rows.rpfSaysSpec) false w args)
      (Rows.rpfSaysSpec.post enc Tryz.prog Tryz.f7 false true false false) := by
  refine returns_laid (C := Tryz.checked) (X := fun w _ => laidMetH Tryz.prog Rows.rpfSaysRow.laid w) (fun _ _ _ hh h => h.of_heap hh) ownK started (by kernel_rfl) Tryz.func7
    (ChangeSpec.witness_shaped (enc := enc) (C := Tryz.checked) (os := os) (X := fun w _ => laidMetH Tryz.prog Rows.rpfSaysRow.laid w) false (World.doorLaid Tryz.prog 142 os) #[(.agg #[.slice none 0 0, .slice none 0 0, .slice none 0 0, .slice none 0 0, .slice none 0 0, .slice none 0 0, .slice none 0 0]), .int .i64 0, .slice none 0 0, .agg #[.int .u32 0, .int .u32 0]] 8 rfl (World.shaped_of_RefB (by kernel_rfl) (by kernel_rfl)) (by kernel_rfl) (by kernel_rfl) (by kernel_rfl) (rpfSays_met os _)) ?_
  intro W base args ds gs before hval hW _ _ hL0 hS _
  have hL := hL0
  rw [MakeChecks.laidMetH_plain _ _ _ (by kernel_rfl)] at hL
  refine law_calls rpfSays_law rfl (fun ds h => ?_) hval hW (sentAt_of hL (by kernel_rfl)) (gokN _) fun xs hx => ?_
  · match ds, h with
    | [d0, d1, d2, d3], _ => rfl
  · simp only [ArgsFit] at hx
    obtain ⟨c1, _, rfl, h1, c2, _, rfl, h2, c3, _, rfl, h3, c4, _, rfl, h4, rfl⟩ := hx
    obtain ⟨w, hw, e1⟩ := fit_net h1
    obtain ⟨r, _, e2⟩ := fit_int h2
    obtain ⟨l, _, hl, e3⟩ := fit_sliceP avU (fun n => n < 4294967296) (fun cs h => fit_u32 h) h3
    obtain ⟨s, g, hs, hg, e4⟩ := fit_key h4
    rw [e1, e2, e3, e4]
    exact C_RpfSays w hw r l hl s g hs hg
end Go.Proofs.YtelbgkknneljeaaGreatDoor
