import Derived.Test.YtnndbbmidoidpaaGreatDoorGaPTopoSaysA
set_option linter.unusedVariables false
set_option linter.unusedSimpArgs false
namespace Go.Proofs.YtnndbbmidoidpaaGreatDoor
open Go.RowKit VL
theorem topoSays_named : Tryz.prog.funcNamed Rows.topoSaysRow.func = some 3 := by kernel_rfl
theorem topoSays_wf : Rows.topoSaysRow.wf (OpenSpec.ofChange Rows.topoSaysSpec) = true := by kernel_rfl
theorem topoSays_tie : namedTie Tryz.prog Rows.topoSaysRow.named Rows.topoSaysSpec.vars = true := by kernel_rfl
theorem topoSays_inPlace : (Rows.topoSaysRow.inPlace == Tryz.prog.inPlace 3) = true := by kernel_rfl
theorem topoSays_unfollowed : (Rows.topoSaysRow.unfollowed == Tryz.prog.unfollowed 3) = true := by kernel_rfl
theorem topoSays_recurses : (Rows.topoSaysRow.recurses == Tryz.prog.recurses 3) = true := by kernel_rfl
theorem topoSays_varsNamed : (Rows.topoSaysRow.named == Tryz.prog.varsNamed 3) = true := by kernel_rfl
theorem topoSays_lifts : (Rows.topoSaysRow.lifted == Tryz.prog.liftsFinal) = true := by kernel_rfl
theorem topoSays_make : (Tryz.prog.make == some Rows.topoSaysRow.make) = true := by kernel_rfl
theorem topoSays_joined : joinedFacts Tryz.prog 3 Tryz.f3 Rows.topoSaysSpec Rows.topoSaysRow = true :=
  joined_mk topoSays_wf fact_out fact_rowed (by as_aux_lemma => kernel_rfl) topoSays_tie rfl fact_stops rfl fact_knobs topoSays_inPlace topoSays_unfollowed topoSays_recurses topoSays_varsNamed
    (by as_aux_lemma => kernel_rfl) (by as_aux_lemma => kernel_rfl) (by as_aux_lemma => kernel_rfl) (by as_aux_lemma => kernel_rfl) (by as_aux_lemma => kernel_rfl)
    (by as_aux_lemma => kernel_rfl) (by as_aux_lemma => kernel_rfl) (by as_aux_lemma => kernel_rfl) (by as_aux_lemma => kernel_rfl) (by as_aux_lemma => kernel_rfl) rfl
    fact_heard fact_enter topoSays_lifts topoSays_make (by as_aux_lemma => kernel_rfl) (by as_aux_lemma => kernel_rfl) (by as_aux_lemma => kernel_rfl) (by as_aux_lemma => kernel_rfl)
theorem topoSays_row_holds : Rows.TopoSaysSaid :=
  OpenClaim.holds_of_wide 3 Tryz.f3 rfl rfl rfl rfl rfl rfl rfl ⟨rfl, rfl, rfl, rfl, rfl⟩ rfl rfl rfl rfl rfl topoSays_named Tryz.func3 topoSays_joined
    (of_decide_eq_true (by as_aux_lemma => kernel_rfl)) (by unfold Func.isWrapper; first | (rw [if_pos (by as_aux_lemma => decide +kernel)]; as_aux_lemma => kernel_rfl) | (rw [if_neg (by as_aux_lemma => decide +kernel)]; exact ⟨rfl, rfl⟩))
    (fun os started H enc _ => topoSays_lifted os started H enc)
theorem topoSays_holds : Rows.TopoSaysCardSaid :=
  Claim7.holds_tied_plain_at .later [] [.sentinel, .sentinel, .sentinel, .sentinel, .sentinel, .sentinel, .sentinel, .sentinel, .sentinel, .sentinel, .sentinel, .sentinel, .sentinel, .sentinel] true (true, "0c3dceba3644c16b60cf0069e21aaf908943954b2651feac0db657fabbe56794") true
    topoSays_row_holds (fun _ h => by cases h) (by as_aux_lemma => kernel_rfl) (fun _ h => by cases h) topoSays_row_tie rfl ⟨rfl, rfl⟩ (by as_aux_lemma => kernel_rfl) rfl
    (fun f fn hf hfn => by
      obtain rfl : f = 3 := Option.some.inj (topoSays_named.symm.trans hf) |>.symm
      obtain rfl : fn = Tryz.f3 := (Option.some.inj (Tryz.func3.symm.trans hfn)).symm
      exact ⟨by as_aux_lemma => kernel_rfl, fun j t ht => by
        have hpar : Tryz.f3.params.toList.all (fun u => [3, 30, 32].contains u) = true := by as_aux_lemma => kernel_rfl
        have hmem : t ∈ Tryz.f3.params.toList := List.mem_of_getElem? (i := j) (by simpa using ht)
        have hm : t ∈ [3, 30, 32] := by simpa using List.all_eq_true.1 hpar t hmem
        have hall : ([3, 30, 32].all fun u => !Tryz.prog.wantsStandIn u) = true := by as_aux_lemma => kernel_rfl
        exact (show Tryz.prog.wantsStandIn t = false by simpa using List.all_eq_true.1 hall t hm)⟩)
    (by as_aux_lemma => kernel_rfl)
end Go.Proofs.YtnndbbmidoidpaaGreatDoor
