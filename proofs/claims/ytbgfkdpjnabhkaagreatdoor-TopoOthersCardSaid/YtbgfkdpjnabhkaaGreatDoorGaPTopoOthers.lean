import Derived.Test.YtbgfkdpjnabhkaaGreatDoorGaPTopoOthersA
set_option linter.unusedVariables false
set_option linter.unusedSimpArgs false
namespace Go.Proofs.YtbgfkdpjnabhkaaGreatDoor
open Go.RowKit VL
theorem topoOthers_named : Tryz.prog.funcNamed Rows.topoOthersRow.func = some 6 := by kernel_rfl
theorem topoOthers_wf : Rows.topoOthersRow.wf (OpenSpec.ofChange Rows.topoOthersSpec) = true := by kernel_rfl
theorem topoOthers_tie : namedTie Tryz.prog Rows.topoOthersRow.named Rows.topoOthersSpec.vars = true := by kernel_rfl
theorem topoOthers_inPlace : (Rows.topoOthersRow.inPlace == Tryz.prog.inPlace 6) = true := by kernel_rfl
theorem topoOthers_unfollowed : (Rows.topoOthersRow.unfollowed == Tryz.prog.unfollowed 6) = true := by kernel_rfl
theorem topoOthers_recurses : (Rows.topoOthersRow.recurses == Tryz.prog.recurses 6) = true := by kernel_rfl
theorem topoOthers_varsNamed : (Rows.topoOthersRow.named == Tryz.prog.varsNamed 6) = true := by kernel_rfl
theorem topoOthers_lifts : (Rows.topoOthersRow.lifted == Tryz.prog.liftsFinal) = true := by kernel_rfl
theorem topoOthers_make : (Tryz.prog.make == some Rows.topoOthersRow.make) = true := by kernel_rfl
theorem topoOthers_joined : joinedFacts Tryz.prog 6 Tryz.f6 Rows.topoOthersSpec Rows.topoOthersRow = true :=
  joined_mk topoOthers_wf fact_out fact_rowed (by as_aux_lemma => kernel_rfl) topoOthers_tie rfl fact_stops rfl fact_knobs topoOthers_inPlace topoOthers_unfollowed topoOthers_recurses topoOthers_varsNamed
    (by as_aux_lemma => kernel_rfl) (by as_aux_lemma => kernel_rfl) (by as_aux_lemma => kernel_rfl) (by as_aux_lemma => kernel_rfl) (by as_aux_lemma => kernel_rfl)
    (by as_aux_lemma => kernel_rfl) (by as_aux_lemma => kernel_rfl) (by as_aux_lemma => kernel_rfl) (by as_aux_lemma => kernel_rfl) (by as_aux_lemma => kernel_rfl) rfl
    fact_heard fact_enter topoOthers_lifts topoOthers_make (by as_aux_lemma => kernel_rfl) (by as_aux_lemma => kernel_rfl) (by as_aux_lemma => kernel_rfl) (by as_aux_lemma => kernel_rfl)
theorem topoOthers_row_holds : Rows.TopoOthersSaid :=
  OpenClaim.holds_of_wide 6 Tryz.f6 rfl rfl rfl rfl rfl rfl rfl ⟨rfl, rfl, rfl, rfl, rfl⟩ rfl rfl rfl rfl rfl topoOthers_named Tryz.func6 topoOthers_joined
    (of_decide_eq_true (by as_aux_lemma => kernel_rfl)) (by unfold Func.isWrapper; first | (rw [if_pos (by as_aux_lemma => decide +kernel)]; as_aux_lemma => kernel_rfl) | (rw [if_neg (by as_aux_lemma => decide +kernel)]; exact ⟨rfl, rfl⟩))
    (fun os started H enc _ => topoOthers_lifted os started H enc)
theorem topoOthers_holds : Rows.TopoOthersCardSaid :=
  Claim7.holds_tied_plain_at .later [] [.sentinel, .sentinel, .sentinel, .sentinel, .sentinel, .sentinel, .sentinel] true (true, "288713d75d79cba3218353d37c123daa7e8f45ef5fcc29f3e0fed0295cf70ad6") true
    topoOthers_row_holds (fun _ h => by cases h) (by as_aux_lemma => kernel_rfl) (fun _ h => by cases h) topoOthers_row_tie rfl ⟨rfl, rfl⟩ (by as_aux_lemma => kernel_rfl) rfl
    (fun f fn hf hfn => by
      obtain rfl : f = 6 := Option.some.inj (topoOthers_named.symm.trans hf) |>.symm
      obtain rfl : fn = Tryz.f6 := (Option.some.inj (Tryz.func6.symm.trans hfn)).symm
      exact ⟨by as_aux_lemma => kernel_rfl, fun j t ht => by
        have hpar : Tryz.f6.params.toList.all (fun u => [3, 30].contains u) = true := by as_aux_lemma => kernel_rfl
        have hmem : t ∈ Tryz.f6.params.toList := List.mem_of_getElem? (i := j) (by simpa using ht)
        have hm : t ∈ [3, 30] := by simpa using List.all_eq_true.1 hpar t hmem
        have hall : ([3, 30].all fun u => !Tryz.prog.wantsStandIn u) = true := by as_aux_lemma => kernel_rfl
        exact (show Tryz.prog.wantsStandIn t = false by simpa using List.all_eq_true.1 hall t hm)⟩)
    (by as_aux_lemma => kernel_rfl)
end Go.Proofs.YtbgfkdpjnabhkaaGreatDoor
