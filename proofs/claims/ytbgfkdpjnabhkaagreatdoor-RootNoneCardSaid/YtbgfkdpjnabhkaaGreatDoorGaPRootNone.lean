import Derived.Test.YtbgfkdpjnabhkaaGreatDoorGaPRootNoneA
set_option linter.unusedVariables false
set_option linter.unusedSimpArgs false
namespace Go.Proofs.YtbgfkdpjnabhkaaGreatDoor
open Go.RowKit VL
theorem rootNone_named : Tryz.prog.funcNamed Rows.rootNoneRow.func = some 5 := by kernel_rfl
theorem rootNone_wf : Rows.rootNoneRow.wf (OpenSpec.ofChange Rows.rootNoneSpec) = true := by kernel_rfl
theorem rootNone_tie : namedTie Tryz.prog Rows.rootNoneRow.named Rows.rootNoneSpec.vars = true := by kernel_rfl
theorem rootNone_inPlace : (Rows.rootNoneRow.inPlace == Tryz.prog.inPlace 5) = true := by kernel_rfl
theorem rootNone_unfollowed : (Rows.rootNoneRow.unfollowed == Tryz.prog.unfollowed 5) = true := by kernel_rfl
theorem rootNone_recurses : (Rows.rootNoneRow.recurses == Tryz.prog.recurses 5) = true := by kernel_rfl
theorem rootNone_varsNamed : (Rows.rootNoneRow.named == Tryz.prog.varsNamed 5) = true := by kernel_rfl
theorem rootNone_lifts : (Rows.rootNoneRow.lifted == Tryz.prog.liftsFinal) = true := by kernel_rfl
theorem rootNone_make : (Tryz.prog.make == some Rows.rootNoneRow.make) = true := by kernel_rfl
theorem rootNone_joined : joinedFacts Tryz.prog 5 Tryz.f5 Rows.rootNoneSpec Rows.rootNoneRow = true :=
  joined_mk rootNone_wf fact_out fact_rowed (by as_aux_lemma => kernel_rfl) rootNone_tie rfl fact_stops rfl fact_knobs rootNone_inPlace rootNone_unfollowed rootNone_recurses rootNone_varsNamed
    (by as_aux_lemma => kernel_rfl) (by as_aux_lemma => kernel_rfl) (by as_aux_lemma => kernel_rfl) (by as_aux_lemma => kernel_rfl) (by as_aux_lemma => kernel_rfl)
    (by as_aux_lemma => kernel_rfl) (by as_aux_lemma => kernel_rfl) (by as_aux_lemma => kernel_rfl) (by as_aux_lemma => kernel_rfl) (by as_aux_lemma => kernel_rfl) rfl
    fact_heard fact_enter rootNone_lifts rootNone_make (by as_aux_lemma => kernel_rfl) (by as_aux_lemma => kernel_rfl) (by as_aux_lemma => kernel_rfl) (by as_aux_lemma => kernel_rfl)
theorem rootNone_row_holds : Rows.RootNoneSaid :=
  OpenClaim.holds_of_wide 5 Tryz.f5 rfl rfl rfl rfl rfl rfl rfl ⟨rfl, rfl, rfl, rfl, rfl⟩ rfl rfl rfl rfl rfl rootNone_named Tryz.func5 rootNone_joined
    (of_decide_eq_true (by as_aux_lemma => kernel_rfl)) (by unfold Func.isWrapper; first | (rw [if_pos (by as_aux_lemma => decide +kernel)]; as_aux_lemma => kernel_rfl) | (rw [if_neg (by as_aux_lemma => decide +kernel)]; exact ⟨rfl, rfl⟩))
    (fun os started H enc _ => rootNone_lifted os started H enc)
theorem rootNone_holds : Rows.RootNoneCardSaid :=
  Claim7.holds_tied_plain_at .later [] [.sentinel, .sentinel, .sentinel, .sentinel, .sentinel, .sentinel, .sentinel] true (true, "288713d75d79cba3218353d37c123daa7e8f45ef5fcc29f3e0fed0295cf70ad6") true
    rootNone_row_holds (fun _ h => by cases h) (by as_aux_lemma => kernel_rfl) (fun _ h => by cases h) rootNone_row_tie rfl ⟨rfl, rfl⟩ (by as_aux_lemma => kernel_rfl) rfl
    (fun f fn hf hfn => by
      obtain rfl : f = 5 := Option.some.inj (rootNone_named.symm.trans hf) |>.symm
      obtain rfl : fn = Tryz.f5 := (Option.some.inj (Tryz.func5.symm.trans hfn)).symm
      exact ⟨by as_aux_lemma => kernel_rfl, fun j t ht => by
        have hpar : Tryz.f5.params.toList.all (fun u => [3, 30, 32].contains u) = true := by as_aux_lemma => kernel_rfl
        have hmem : t ∈ Tryz.f5.params.toList := List.mem_of_getElem? (i := j) (by simpa using ht)
        have hm : t ∈ [3, 30, 32] := by simpa using List.all_eq_true.1 hpar t hmem
        have hall : ([3, 30, 32].all fun u => !Tryz.prog.wantsStandIn u) = true := by as_aux_lemma => kernel_rfl
        exact (show Tryz.prog.wantsStandIn t = false by simpa using List.all_eq_true.1 hall t hm)⟩)
    (by as_aux_lemma => kernel_rfl)
end Go.Proofs.YtbgfkdpjnabhkaaGreatDoor
