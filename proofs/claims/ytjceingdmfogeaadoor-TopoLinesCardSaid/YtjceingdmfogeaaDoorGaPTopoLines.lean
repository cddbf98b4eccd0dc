import Derived.Test.YtjceingdmfogeaaDoorGaPTopoLinesA
set_option linter.unusedVariables false
set_option linter.unusedSimpArgs false
namespace Go.Proofs.YtjceingdmfogeaaDoor
open Go.RowKit VL
theorem topoLines_named : Tryd.prog.funcNamed Rows.topoLinesRow.func = some 4 := by kernel_rfl
theorem topoLines_wf : Rows.topoLinesRow.wf (OpenSpec.ofChange Rows.topoLinesSpec) = true := by kernel_rfl
theorem topoLines_tie : namedTie Tryd.prog Rows.topoLinesRow.named Rows.topoLinesSpec.vars = true := by kernel_rfl
theorem topoLines_inPlace : (Rows.topoLinesRow.inPlace == Tryd.prog.inPlace 4) = true := by kernel_rfl
theorem topoLines_unfollowed : (Rows.topoLinesRow.unfollowed == Tryd.prog.unfollowed 4) = true := by kernel_rfl
theorem topoLines_recurses : (Rows.topoLinesRow.recurses == Tryd.prog.recurses 4) = true := by kernel_rfl
theorem topoLines_varsNamed : (Rows.topoLinesRow.named == Tryd.prog.varsNamed 4) = true := by kernel_rfl
theorem topoLines_lifts : (Rows.topoLinesRow.lifted == Tryd.prog.liftsFinal) = true := by kernel_rfl
theorem topoLines_make : (Tryd.prog.make == some Rows.topoLinesRow.make) = true := by kernel_rfl
theorem topoLines_joined : joinedFacts Tryd.prog 4 Tryd.f4 Rows.topoLinesSpec Rows.topoLinesRow = true :=
  joined_mk topoLines_wf fact_out fact_rowed (by as_aux_lemma => kernel_rfl) topoLines_tie rfl fact_stops rfl fact_knobs topoLines_inPlace topoLines_unfollowed topoLines_recurses topoLines_varsNamed
    (by as_aux_lemma => kernel_rfl) (by as_aux_lemma => kernel_rfl) (by as_aux_lemma => kernel_rfl) (by as_aux_lemma => kernel_rfl) (by as_aux_lemma => kernel_rfl)
    (by as_aux_lemma => kernel_rfl) (by as_aux_lemma => kernel_rfl) (by as_aux_lemma => kernel_rfl) (by as_aux_lemma => kernel_rfl) (by as_aux_lemma => kernel_rfl) rfl
    fact_heard fact_enter topoLines_lifts topoLines_make (by as_aux_lemma => kernel_rfl) (by as_aux_lemma => kernel_rfl) (by as_aux_lemma => kernel_rfl) (by as_aux_lemma => kernel_rfl)
theorem topoLines_row_holds : Rows.TopoLinesSaid :=
  OpenClaim.holds_of_wide 4 Tryd.f4 rfl rfl rfl rfl rfl rfl rfl ⟨rfl, rfl, rfl, rfl, rfl⟩ rfl rfl rfl rfl rfl topoLines_named Tryd.func4 topoLines_joined
    (of_decide_eq_true (by as_aux_lemma => kernel_rfl)) (by unfold Func.isWrapper; first | (rw [if_pos (by as_aux_lemma => decide +kernel)]; as_aux_lemma => kernel_rfl) | (rw [if_neg (by as_aux_lemma => decide +kernel)]; exact ⟨rfl, rfl⟩))
    (fun os started H enc _ => topoLines_lifted os started H enc)
theorem topoLines_holds : Rows.TopoLinesCardSaid :=
  Claim7.holds_tied_plain_at .later [] [.sentinel, .sentinel, .sentinel, .sentinel, .sentinel, .sentinel, .sentinel] true (true, "8d9ddd940d4b1a4ef888d1fa30e514bf5d37f6146e4549fb7c9ec065c9860c75") false
    topoLines_row_holds (fun _ h => by cases h) (by as_aux_lemma => kernel_rfl) (fun _ h => by cases h) topoLines_row_tie rfl ⟨rfl, rfl⟩ (by as_aux_lemma => kernel_rfl) rfl
    (fun f fn hf hfn => by
      obtain rfl : f = 4 := Option.some.inj (topoLines_named.symm.trans hf) |>.symm
      obtain rfl : fn = Tryd.f4 := (Option.some.inj (Tryd.func4.symm.trans hfn)).symm
      exact ⟨by as_aux_lemma => kernel_rfl, fun j t ht => by
        have hpar : Tryd.f4.params.toList.all (fun u => [3].contains u) = true := by as_aux_lemma => kernel_rfl
        have hmem : t ∈ Tryd.f4.params.toList := List.mem_of_getElem? (i := j) (by simpa using ht)
        have hm : t ∈ [3] := by simpa using List.all_eq_true.1 hpar t hmem
        have hall : ([3].all fun u => !Tryd.prog.wantsStandIn u) = true := by as_aux_lemma => kernel_rfl
        exact (show Tryd.prog.wantsStandIn t = false by simpa using List.all_eq_true.1 hall t hm)⟩)
    (by as_aux_lemma => kernel_rfl)
end Go.Proofs.YtjceingdmfogeaaDoor
