import Derived.Test.YtjceingdmfogeaaDoorGaPRibDeepA
set_option linter.unusedVariables false
set_option linter.unusedSimpArgs false
namespace Go.Proofs.YtjceingdmfogeaaDoor
open Go.RowKit VL
theorem ribDeep_named : Tryd.prog.funcNamed Rows.ribDeepRow.func = some 6 := by kernel_rfl
theorem ribDeep_wf : Rows.ribDeepRow.wf (OpenSpec.ofChange Rows.ribDeepSpec) = true := by kernel_rfl
theorem ribDeep_tie : namedTie Tryd.prog Rows.ribDeepRow.named Rows.ribDeepSpec.vars = true := by kernel_rfl
theorem ribDeep_inPlace : (Rows.ribDeepRow.inPlace == Tryd.prog.inPlace 6) = true := by kernel_rfl
theorem ribDeep_unfollowed : (Rows.ribDeepRow.unfollowed == Tryd.prog.unfollowed 6) = true := by kernel_rfl
theorem ribDeep_recurses : (Rows.ribDeepRow.recurses == Tryd.prog.recurses 6) = true := by kernel_rfl
theorem ribDeep_varsNamed : (Rows.ribDeepRow.named == Tryd.prog.varsNamed 6) = true := by kernel_rfl
theorem ribDeep_lifts : (Rows.ribDeepRow.lifted == Tryd.prog.liftsFinal) = true := by kernel_rfl
theorem ribDeep_make : (Tryd.prog.make == some Rows.ribDeepRow.make) = true := by kernel_rfl
theorem ribDeep_joined : joinedFacts Tryd.prog 6 Tryd.f6 Rows.ribDeepSpec Rows.ribDeepRow = true :=
  joined_mk ribDeep_wf fact_out fact_rowed (by as_aux_lemma => kernel_rfl) ribDeep_tie rfl fact_stops rfl fact_knobs ribDeep_inPlace ribDeep_unfollowed ribDeep_recurses ribDeep_varsNamed
    (by as_aux_lemma => kernel_rfl) (by as_aux_lemma => kernel_rfl) (by as_aux_lemma => kernel_rfl) (by as_aux_lemma => kernel_rfl) (by as_aux_lemma => kernel_rfl)
    (by as_aux_lemma => kernel_rfl) (by as_aux_lemma => kernel_rfl) (by as_aux_lemma => kernel_rfl) (by as_aux_lemma => kernel_rfl) (by as_aux_lemma => kernel_rfl) rfl
    fact_heard fact_enter ribDeep_lifts ribDeep_make (by as_aux_lemma => kernel_rfl) (by as_aux_lemma => kernel_rfl) (by as_aux_lemma => kernel_rfl) (by as_aux_lemma => kernel_rfl)
theorem ribDeep_row_holds : Rows.RibDeepSaid :=
  OpenClaim.holds_of_wide 6 Tryd.f6 rfl rfl rfl rfl rfl rfl rfl ⟨rfl, rfl, rfl, rfl, rfl⟩ rfl rfl rfl rfl rfl ribDeep_named Tryd.func6 ribDeep_joined
    (of_decide_eq_true (by as_aux_lemma => kernel_rfl)) (by unfold Func.isWrapper; first | (rw [if_pos (by as_aux_lemma => decide +kernel)]; as_aux_lemma => kernel_rfl) | (rw [if_neg (by as_aux_lemma => decide +kernel)]; exact ⟨rfl, rfl⟩))
    (fun os started H enc _ => ribDeep_lifted os started H enc)
theorem ribDeep_holds : Rows.RibDeepCardSaid :=
  Claim7.holds_tied_plain_at .later [] [.sentinel, .sentinel, .sentinel, .sentinel, .sentinel, .sentinel, .sentinel] true (true, "8d9ddd940d4b1a4ef888d1fa30e514bf5d37f6146e4549fb7c9ec065c9860c75") false
    ribDeep_row_holds (fun _ h => by cases h) (by as_aux_lemma => kernel_rfl) (fun _ h => by cases h) ribDeep_row_tie rfl ⟨rfl, rfl⟩ (by as_aux_lemma => kernel_rfl) rfl
    (fun f fn hf hfn => by
      obtain rfl : f = 6 := Option.some.inj (ribDeep_named.symm.trans hf) |>.symm
      obtain rfl : fn = Tryd.f6 := (Option.some.inj (Tryd.func6.symm.trans hfn)).symm
      exact ⟨by as_aux_lemma => kernel_rfl, fun j t ht => by
        have hpar : Tryd.f6.params.toList.all (fun u => [3].contains u) = true := by as_aux_lemma => kernel_rfl
        have hmem : t ∈ Tryd.f6.params.toList := List.mem_of_getElem? (i := j) (by simpa using ht)
        have hm : t ∈ [3] := by simpa using List.all_eq_true.1 hpar t hmem
        have hall : ([3].all fun u => !Tryd.prog.wantsStandIn u) = true := by as_aux_lemma => kernel_rfl
        exact (show Tryd.prog.wantsStandIn t = false by simpa using List.all_eq_true.1 hall t hm)⟩)
    (by as_aux_lemma => kernel_rfl)
end Go.Proofs.YtjceingdmfogeaaDoor
