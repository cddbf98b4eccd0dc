import Derived.Test.YtobofhbklfallaaGreatDoorGa15
import Derived.Test.YtobofhbklfallaaGreatDoorGaPRootOneF
set_option linter.unusedVariables false
set_option linter.unusedSimpArgs false
namespace Go.Proofs.YtobofhbklfallaaGreatDoor
open Go.RowKit VL
theorem rootOne_row_holds : Rows.RootOneSaid :=
  OpenClaim.holds_of_wide 4 Tryz.f4 rfl rfl rfl rfl rfl rfl rfl ⟨rfl, rfl, rfl, rfl, rfl⟩ rfl rfl rfl rfl rfl rootOne_named Tryz.func4 rootOne_joined
    (of_decide_eq_true (by as_aux_lemma => kernel_rfl)) (by unfold Func.isWrapper; first | (rw [if_pos (by as_aux_lemma => decide +kernel)]; as_aux_lemma => kernel_rfl) | (rw [if_neg (by as_aux_lemma => decide +kernel)]; exact ⟨rfl, rfl⟩))
    (fun os started H enc _ => rootOne_lifted os started H enc)
theorem rootOne_holds : Rows.RootOneCardSaid :=
  Claim7.holds_tied_plain_at .later [] [.sentinel, .sentinel, .sentinel, .sentinel, .sentinel, .sentinel, .sentinel] true (true, "e066ce63263c4bd7ab5ef11045a8b857106e767404eef14bbae601ad13bdf727") true
    rootOne_row_holds (fun _ h => by cases h) (by as_aux_lemma => kernel_rfl) (fun _ h => by cases h) rootOne_row_tie rfl ⟨rfl, rfl⟩ (by as_aux_lemma => kernel_rfl) rfl
    (fun f fn hf hfn => by
      obtain rfl : f = 4 := Option.some.inj (rootOne_named.symm.trans hf) |>.symm
      obtain rfl : fn = Tryz.f4 := (Option.some.inj (Tryz.func4.symm.trans hfn)).symm
      exact ⟨by as_aux_lemma => kernel_rfl, fun j t ht => by
        have hpar : Tryz.f4.params.toList.all (fun u => [30, 32].contains u) = true := by as_aux_lemma => kernel_rfl
        have hmem : t ∈ Tryz.f4.params.toList := List.mem_of_getElem? (i := j) (by simpa using ht)
        have hm : t ∈ [30, 32] := by simpa using List.all_eq_true.1 hpar t hmem
        have hall : ([30, 32].all fun u => !Tryz.prog.wantsStandIn u) = true := by as_aux_lemma => kernel_rfl
        exact (show Tryz.prog.wantsStandIn t = false by simpa using List.all_eq_true.1 hall t hm)⟩)
    (by as_aux_lemma => kernel_rfl)
end Go.Proofs.YtobofhbklfallaaGreatDoor
