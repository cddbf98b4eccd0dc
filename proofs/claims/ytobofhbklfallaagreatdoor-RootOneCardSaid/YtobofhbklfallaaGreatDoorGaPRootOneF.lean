import Derived.Test.YtobofhbklfallaaGreatDoorGa7
set_option linter.unusedVariables false
set_option linter.unusedSimpArgs false
namespace Go.Proofs.YtobofhbklfallaaGreatDoor
open Go.RowKit VL
theorem rootOne_named : Tryz.prog.funcNamed Rows.rootOneRow.func = some 4 := by kernel_rfl
theorem rootOne_wf : Rows.rootOneRow.wf (OpenSpec.ofChange Rows.rootOneSpec) = true := by kernel_rfl
theorem rootOne_tie : namedTie Tryz.prog Rows.rootOneRow.named Rows.rootOneSpec.vars = true := by kernel_rfl
theorem rootOne_inPlace : (Rows.rootOneRow.inPlace == Tryz.prog.inPlace 4) = true := by kernel_rfl
theorem rootOne_unfollowed : (Rows.rootOneRow.unfollowed == Tryz.prog.unfollowed 4) = true := by kernel_rfl
theorem rootOne_recurses : (Rows.rootOneRow.recurses == Tryz.prog.recurses 4) = true := by kernel_rfl
theorem rootOne_varsNamed : (Rows.rootOneRow.named == Tryz.prog.varsNamed 4) = true := by kernel_rfl
theorem rootOne_lifts : (Rows.rootOneRow.lifted == Tryz.prog.liftsFinal) = true := by kernel_rfl
theorem rootOne_make : (Tryz.prog.make == some Rows.rootOneRow.make) = true := by kernel_rfl
theorem rootOne_joined : joinedFacts Tryz.prog 4 Tryz.f4 Rows.rootOneSpec Rows.rootOneRow = true :=
  joined_mk rootOne_wf fact_out fact_rowed (by as_aux_lemma => kernel_rfl) rootOne_tie rfl fact_stops rfl fact_knobs rootOne_inPlace rootOne_unfollowed rootOne_recurses rootOne_varsNamed
    (by as_aux_lemma => kernel_rfl) (by as_aux_lemma => kernel_rfl) (by as_aux_lemma => kernel_rfl) (by as_aux_lemma => kernel_rfl) (by as_aux_lemma => kernel_rfl)
    (by as_aux_lemma => kernel_rfl) (by as_aux_lemma => kernel_rfl) (by as_aux_lemma => kernel_rfl) (by as_aux_lemma => kernel_rfl) (by as_aux_lemma => kernel_rfl) rfl
    fact_heard fact_enter rootOne_lifts rootOne_make (by as_aux_lemma => kernel_rfl) (by as_aux_lemma => kernel_rfl) (by as_aux_lemma => kernel_rfl) (by as_aux_lemma => kernel_rfl)
end Go.Proofs.YtobofhbklfallaaGreatDoor
