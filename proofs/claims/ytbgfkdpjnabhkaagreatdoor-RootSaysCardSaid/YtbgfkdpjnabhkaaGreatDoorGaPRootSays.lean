import Derived.Test.YtbgfkdpjnabhkaaGreatDoorGaPRootSaysA
set_option linter.unusedVariables false
set_option linter.unusedSimpArgs false
namespace Go.Proofs.YtbgfkdpjnabhkaaGreatDoor
open Go.RowKit VL
theorem rootSays_named : Tryz.prog.funcNamed Rows.rootSaysRow.func = some 3 := by kernel_rfl
theorem rootSays_wf : Rows.rootSaysRow.wf (OpenSpec.ofChange Rows.rootSaysSpec) = true := by kernel_rfl
theorem rootSays_tie : namedTie Tryz.prog Rows.rootSaysRow.named Rows.rootSaysSpec.vars = true := by kernel_rfl
theorem rootSays_inPlace : (Rows.rootSaysRow.inPlace == Tryz.prog.inPlace 3) = true := by kernel_rfl
theorem rootSays_unfollowed : (Rows.rootSaysRow.unfollowed == Tryz.prog.unfollowed 3) = true := by kernel_rfl
theorem rootSays_recurses : (Rows.rootSaysRow.recurses == Tryz.prog.recurses 3) = true := by kernel_rfl
theorem rootSays_varsNamed : (Rows.rootSaysRow.named == Tryz.prog.varsNamed 3) = true := by kernel_rfl
theorem rootSays_lifts : (Rows.rootSaysRow.lifted == Tryz.prog.liftsFinal) = true := by kernel_rfl
theorem rootSays_make : (Tryz.prog.make == some Rows.rootSaysRow.make) = true := by kernel_rfl
theorem rootSays_joined : joinedFacts Tryz.prog 3 Tryz.f3 Rows.rootSaysSpec Rows.rootSaysRow = true :=
  joined_mk rootSays_wf fact_out fact_rowed (by as_aux_lemma => kernel_rfl) rootSays_tie rfl fact_stops rfl fact_knobs rootSays_inPlace rootSays_unfollowed rootSays_recurses rootSays_varsNamed
    (by as_aux_lemma => kernel_rfl) (by as_aux_lemma => kernel_rfl) (by as_aux_lemma => kernel_rfl) (by as_aux_lemma => kernel_rfl) (by as_aux_lemma => kernel_rfl)
    (by as_aux_lemma => kernel_rfl) (by as_aux_lemma => kernel_rfl) (by as_aux_lemma => kernel_rfl) (by as_aux_lemma => kernel_rfl) (by as_aux_lemma => kernel_rfl) rfl
    fact_heard fact_enter rootSays_lifts rootSays_make (by as_aux_lemma => kernel_rfl) (by as_aux_lemma => kernel_rfl) (by as_aux_lemma => kernel_rfl) (by as_aux_lemma => kernel_rfl)
theorem rootSays_row_holds : Rows.RootSaysSaid :=
  OpenClaim.holds_of_wide 3 Tryz.f3 rfl rfl rfl rfl rfl rfl rfl ⟨rfl, rfl, rfl, rfl, rfl⟩ rfl rfl rfl rfl rfl rootSays_named Tryz.func3 rootSays_joined
    (of_decide_eq_true (by as_aux_lemma => kernel_rfl)) (by unfold Func.isWrapper; first | (rw [if_pos (by as_aux_lemma => decide +kernel)]; as_aux_lemma => kernel_rfl) | (rw [if_neg (by as_aux_lemma => decide +kernel)]; exact ⟨rfl, rfl⟩))
    (fun os started H enc _ => rootSays_lifted os started H enc)
theorem rootSays_holds : Rows.RootSaysCardSaid :=
  Claim7.holds_tied_plain_at .later [] [.sentinel, .sentinel, .sentinel, .sentinel, .sentinel, .sentinel, .sentinel] true (true, "288713d75d79cba3218353d37c123daa7e8f45ef5fcc29f3e0fed0295cf70ad6") true
    rootSays_row_holds (fun _ h => by cases h) (by as_aux_lemma => kernel_rfl) (fun _ h => by cases h) rootSays_row_tie rfl ⟨rfl, rfl⟩ (by as_aux_lemma => kernel_rfl) rfl
    (fun f fn hf hfn => by
      obtain rfl : f = 3 := Option.some.inj (rootSays_named.symm.trans hf) |>.symm
      obtain rfl : fn = Tryz.f3 := (Option.some.inj (Tryz.func3.symm.trans hfn)).symm
      exact ⟨by as_aux_lemma => kernel_rfl, fun j t ht => by
        have hpar : Tryz.f3.params.toList.all (fun u => [3, 30, 32].contains u) = true := by as_aux_lemma => kernel_rfl
        have hmem : t ∈ Tryz.f3.params.toList := List.mem_of_getElem? (i := j) (by simpa using ht)
        have hm : t ∈ [3, 30, 32] := by simpa using List.all_eq_true.1 hpar t hmem
        have hall : ([3, 30, 32].all fun u => !Tryz.prog.wantsStandIn u) = true := by as_aux_lemma => kernel_rfl
        exact (show Tryz.prog.wantsStandIn t = false by simpa using List.all_eq_true.1 hall t hm)⟩)
    (by as_aux_lemma => kernel_rfl)
end Go.Proofs.YtbgfkdpjnabhkaaGreatDoor
