import Derived.Test.YtobofhbklfallaaGreatDoorGa14
set_option linter.unusedVariables false
set_option linter.unusedSimpArgs false
namespace Go.Proofs.YtobofhbklfallaaGreatDoor
open Go.RowKit VL
theorem topoGroups_named : Tryz.prog.funcNamed Rows.topoGroupsRow.func = some 3 := by kernel_rfl
theorem topoGroups_wf : Rows.topoGroupsRow.wf (OpenSpec.ofChange Rows.topoGroupsSpec) = true := by kernel_rfl
theorem topoGroups_tie : namedTie Tryz.prog Rows.topoGroupsRow.named Rows.topoGroupsSpec.vars = true := by kernel_rfl
theorem topoGroups_inPlace : (Rows.topoGroupsRow.inPlace == Tryz.prog.inPlace 3) = true := by kernel_rfl
theorem topoGroups_unfollowed : (Rows.topoGroupsRow.unfollowed == Tryz.prog.unfollowed 3) = true := by kernel_rfl
theorem topoGroups_recurses : (Rows.topoGroupsRow.recurses == Tryz.prog.recurses 3) = true := by kernel_rfl
theorem topoGroups_varsNamed : (Rows.topoGroupsRow.named == Tryz.prog.varsNamed 3) = true := by kernel_rfl
theorem topoGroups_lifts : (Rows.topoGroupsRow.lifted == Tryz.prog.liftsFinal) = true := by kernel_rfl
theorem topoGroups_make : (Tryz.prog.make == some Rows.topoGroupsRow.make) = true := by kernel_rfl
theorem topoGroups_joined : joinedFacts Tryz.prog 3 Tryz.f3 Rows.topoGroupsSpec Rows.topoGroupsRow = true :=
  joined_mk topoGroups_wf fact_out fact_rowed (by as_aux_lemma => kernel_rfl) topoGroups_tie rfl fact_stops rfl fact_knobs topoGroups_inPlace topoGroups_unfollowed topoGroups_recurses topoGroups_varsNamed
    (by as_aux_lemma => kernel_rfl) (by as_aux_lemma => kernel_rfl) (by as_aux_lemma => kernel_rfl) (by as_aux_lemma => kernel_rfl) (by as_aux_lemma => kernel_rfl)
    (by as_aux_lemma => kernel_rfl) (by as_aux_lemma => kernel_rfl) (by as_aux_lemma => kernel_rfl) (by as_aux_lemma => kernel_rfl) (by as_aux_lemma => kernel_rfl) rfl
    fact_heard fact_enter topoGroups_lifts topoGroups_make (by as_aux_lemma => kernel_rfl) (by as_aux_lemma => kernel_rfl) (by as_aux_lemma => kernel_rfl) (by as_aux_lemma => kernel_rfl)
theorem topoGroups_row_holds : Rows.TopoGroupsSaid :=
  OpenClaim.holds_of_wide 3 Tryz.f3 rfl rfl rfl rfl rfl rfl rfl ⟨rfl, rfl, rfl, rfl, rfl⟩ rfl rfl rfl rfl rfl topoGroups_named Tryz.func3 topoGroups_joined
    (of_decide_eq_true (by as_aux_lemma => kernel_rfl)) (by unfold Func.isWrapper; first | (rw [if_pos (by as_aux_lemma => decide +kernel)]; as_aux_lemma => kernel_rfl) | (rw [if_neg (by as_aux_lemma => decide +kernel)]; exact ⟨rfl, rfl⟩))
    (fun os started H enc _ => topoGroups_lifted os started H enc)
theorem topoGroups_holds : Rows.TopoGroupsCardSaid :=
  Claim7.holds_tied_plain_at .later [] [.sentinel, .sentinel, .sentinel, .sentinel, .sentinel, .sentinel, .sentinel] true (true, "e066ce63263c4bd7ab5ef11045a8b857106e767404eef14bbae601ad13bdf727") true
    topoGroups_row_holds (fun _ h => by cases h) (by as_aux_lemma => kernel_rfl) (fun _ h => by cases h) topoGroups_row_tie rfl ⟨rfl, rfl⟩ (by as_aux_lemma => kernel_rfl) rfl
    (fun f fn hf hfn => by
      obtain rfl : f = 3 := Option.some.inj (topoGroups_named.symm.trans hf) |>.symm
      obtain rfl : fn = Tryz.f3 := (Option.some.inj (Tryz.func3.symm.trans hfn)).symm
      exact ⟨by as_aux_lemma => kernel_rfl, fun j t ht => by
        have hpar : Tryz.f3.params.toList.all (fun u => [30, 32].contains u) = true := by as_aux_lemma => kernel_rfl
        have hmem : t ∈ Tryz.f3.params.toList := List.mem_of_getElem? (i := j) (by simpa using ht)
        have hm : t ∈ [30, 32] := by simpa using List.all_eq_true.1 hpar t hmem
        have hall : ([30, 32].all fun u => !Tryz.prog.wantsStandIn u) = true := by as_aux_lemma => kernel_rfl
        exact (show Tryz.prog.wantsStandIn t = false by simpa using List.all_eq_true.1 hall t hm)⟩)
    (by as_aux_lemma => kernel_rfl)
end Go.Proofs.YtobofhbklfallaaGreatDoor
