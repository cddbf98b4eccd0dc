import Derived.Test.YtbgfkdpjnabhkaaGreatDoorGaPRootRangesA
set_option linter.unusedVariables false
set_option linter.unusedSimpArgs false
namespace Go.Proofs.YtbgfkdpjnabhkaaGreatDoor
open Go.RowKit VL
theorem rootRanges_named : Tryz.prog.funcNamed Rows.rootRangesRow.func = some 4 := by kernel_rfl
theorem rootRanges_wf : Rows.rootRangesRow.wf (OpenSpec.ofChange Rows.rootRangesSpec) = true := by kernel_rfl
theorem rootRanges_tie : namedTie Tryz.prog Rows.rootRangesRow.named Rows.rootRangesSpec.vars = true := by kernel_rfl
theorem rootRanges_inPlace : (Rows.rootRangesRow.inPlace == Tryz.prog.inPlace 4) = true := by kernel_rfl
theorem rootRanges_unfollowed : (Rows.rootRangesRow.unfollowed == Tryz.prog.unfollowed 4) = true := by kernel_rfl
theorem rootRanges_recurses : (Rows.rootRangesRow.recurses == Tryz.prog.recurses 4) = true := by kernel_rfl
theorem rootRanges_varsNamed : (Rows.rootRangesRow.named == Tryz.prog.varsNamed 4) = true := by kernel_rfl
theorem rootRanges_lifts : (Rows.rootRangesRow.lifted == Tryz.prog.liftsFinal) = true := by kernel_rfl
theorem rootRanges_make : (Tryz.prog.make == some Rows.rootRangesRow.make) = true := by kernel_rfl
theorem rootRanges_joined : joinedFacts Tryz.prog 4 Tryz.f4 Rows.rootRangesSpec Rows.rootRangesRow = true :=
  joined_mk rootRanges_wf fact_out fact_rowed (by as_aux_lemma => kernel_rfl) rootRanges_tie rfl fact_stops rfl fact_knobs rootRanges_inPlace rootRanges_unfollowed rootRanges_recurses rootRanges_varsNamed
    (by as_aux_lemma => kernel_rfl) (by as_aux_lemma => kernel_rfl) (by as_aux_lemma => kernel_rfl) (by as_aux_lemma => kernel_rfl) (by as_aux_lemma => kernel_rfl)
    (by as_aux_lemma => kernel_rfl) (by as_aux_lemma => kernel_rfl) (by as_aux_lemma => kernel_rfl) (by as_aux_lemma => kernel_rfl) (by as_aux_lemma => kernel_rfl) rfl
    fact_heard fact_enter rootRanges_lifts rootRanges_make (by as_aux_lemma => kernel_rfl) (by as_aux_lemma => kernel_rfl) (by as_aux_lemma => kernel_rfl) (by as_aux_lemma => kernel_rfl)
theorem rootRanges_row_holds : Rows.RootRangesSaid :=
  OpenClaim.holds_of_wide 4 Tryz.f4 rfl rfl rfl rfl rfl rfl rfl ⟨rfl, rfl, rfl, rfl, rfl⟩ rfl rfl rfl rfl rfl rootRanges_named Tryz.func4 rootRanges_joined
    (of_decide_eq_true (by as_aux_lemma => kernel_rfl)) (by unfold Func.isWrapper; first | (rw [if_pos (by as_aux_lemma => decide +kernel)]; as_aux_lemma => kernel_rfl) | (rw [if_neg (by as_aux_lemma => decide +kernel)]; exact ⟨rfl, rfl⟩))
    (fun os started H enc _ => rootRanges_lifted os started H enc)
theorem rootRanges_holds : Rows.RootRangesCardSaid :=
  Claim7.holds_tied_plain_at .later [] [.sentinel, .sentinel, .sentinel, .sentinel, .sentinel, .sentinel, .sentinel] true (true, "288713d75d79cba3218353d37c123daa7e8f45ef5fcc29f3e0fed0295cf70ad6") true
    rootRanges_row_holds (fun _ h => by cases h) (by as_aux_lemma => kernel_rfl) (fun _ h => by cases h) rootRanges_row_tie rfl ⟨rfl, rfl⟩ (by as_aux_lemma => kernel_rfl) rfl
    (fun f fn hf hfn => by
      obtain rfl : f = 4 := Option.some.inj (rootRanges_named.symm.trans hf) |>.symm
      obtain rfl : fn = Tryz.f4 := (Option.some.inj (Tryz.func4.symm.trans hfn)).symm
      exact ⟨by as_aux_lemma => kernel_rfl, fun j t ht => by
        have hpar : Tryz.f4.params.toList.all (fun u => [3].contains u) = true := by as_aux_lemma => kernel_rfl
        have hmem : t ∈ Tryz.f4.params.toList := List.mem_of_getElem? (i := j) (by simpa using ht)
        have hm : t ∈ [3] := by simpa using List.all_eq_true.1 hpar t hmem
        have hall : ([3].all fun u => !Tryz.prog.wantsStandIn u) = true := by as_aux_lemma => kernel_rfl
        exact (show Tryz.prog.wantsStandIn t = false by simpa using List.all_eq_true.1 hall t hm)⟩)
    (by as_aux_lemma => kernel_rfl)
end Go.Proofs.YtbgfkdpjnabhkaaGreatDoor
