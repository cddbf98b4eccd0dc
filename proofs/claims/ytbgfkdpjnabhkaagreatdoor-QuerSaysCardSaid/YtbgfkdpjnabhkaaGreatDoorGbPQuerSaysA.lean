import Derived.Test.YtbgfkdpjnabhkaaGreatDoorGb15
set_option linter.unusedVariables false
set_option linter.unusedSimpArgs false
namespace Go.Proofs.YtbgfkdpjnabhkaaGreatDoor
open Go.RowKit VL
theorem querSays_law : lawOf Tryz.prog Tryz.f9 8 = (true, some [([.sl false [.int .u32]], false), ([.int .i64, .int .i64], true), ([.int .u32], false), (netT, true), ([.int .i64], false)], true) := by kernel_rfl
theorem querSays_met (os : Os) (args : Array Value) : laidMetH Tryz.prog Rows.querSaysRow.laid ((World.doorLaid Tryz.prog 275 os).forCall (fun _ _ => 0) ⟨#[], args, []⟩).memory :=
  laidMetH_of_parts3 (fuel := 8) (laidMet_of_run' 8 (by kernel_rfl) (by kernel_rfl)) (by kernel_rfl) (by kernel_rfl)
set_option maxRecDepth 100000 in
theorem querSays_lifted (os : Os) (started : os.Started) (H : Type) (enc : TypeId × Value → H) :
    ReturnsInHanded {} Tryz.checked os 9 .any (fun w args => (Rows.querSaysSpec.pre enc Tryz.prog Tryz.f9 Rows.querSaysRow.domain false w args ∧ laidMetH Tryz.prog Rows.querSaysRow.laid w) ∧ sizedMet enc Tryz.prog Tryz.f9 (OpenSpec.ofChange Rows.querSaysSpec) false w args)
      (Rows.querSaysSpec.post enc Tryz.prog Tryz.f9 false true false false) := by
  refine returns_laid (C := Tryz.checked) (X := fun w _ => laidMetH Tryz.prog Rows.querSaysRow.laid w) (fun _ _ _ hh h => h.of_heap hh) ownK started (by kernel_rfl) Tryz.func9
    (ChangeSpec.witness_shaped (enc := enc) (C := Tryz.checked) (os := os) (X := fun w _ => laidMetH Tryz.prog Rows.querSaysRow.laid w) false (World.doorLaid Tryz.prog 275 os) #[.slice none 0 0, .agg #[.int .i64 0, .int .i64 0], .int .u32 0, (.agg #[.slice none 0 0, .slice none 0 0, .slice none 0 0, .slice none 0 0, .slice none 0 0, .slice none 0 0, .slice none 0 0]), .int .i64 0] 8 rfl (World.shaped_of_RefB (by kernel_rfl) (by kernel_rfl)) (by kernel_rfl) (by kernel_rfl) (by kernel_rfl) (querSays_met os _)) ?_
  intro W base args ds gs before hval hW _ _ hL0 hS _
  have hL := hL0
  rw [MakeChecks.laidMetH_plain _ _ _ (by kernel_rfl)] at hL
  refine law_calls querSays_law rfl (fun ds h => ?_) hval hW (sentAt_of hL (by kernel_rfl)) (gokN _) fun xs hx => ?_
  · match ds, h with
    | [d0, d1, d2, d3, d4], _ => rfl
  · simp only [ArgsFit] at hx
    obtain ⟨c1, _, rfl, h1, c2, _, rfl, h2, c3, _, rfl, h3, c4, _, rfl, h4, c5, _, rfl, h5, rfl⟩ := hx
    obtain ⟨l, _, _, e1⟩ := fit_sliceP avU (fun _ => True) (fun cs h => by obtain ⟨x, _, e⟩ := fit_u32 h; exact ⟨x, trivial, e⟩) h1
    obtain ⟨u, e2⟩ := fit_turn h2
    obtain ⟨own, _, e3⟩ := fit_u32 h3
    obtain ⟨w, hw, e4⟩ := fit_net h4
    obtain ⟨k, _, e5⟩ := fit_int h5
    rw [e1, e2, e3, e4, e5]
    exact C_QuerSaysN l u own w hw k
end Go.Proofs.YtbgfkdpjnabhkaaGreatDoor
