import Derived.Test.YtjceingdmfogeaaDoorGaPRibLeastA
set_option linter.unusedVariables false
set_option linter.unusedSimpArgs false
namespace Go.Proofs.YtjceingdmfogeaaDoor
open Go.RowKit VL
theorem ribLeast_named : Tryd.prog.funcNamed Rows.ribLeastRow.func = some 7 := by kernel_rfl
theorem ribLeast_wf : Rows.ribLeastRow.wf (OpenSpec.ofChange Rows.ribLeastSpec) = true := by kernel_rfl
theorem ribLeast_tie : namedTie Tryd.prog Rows.ribLeastRow.named Rows.ribLeastSpec.vars = true := by kernel_rfl
theorem ribLeast_inPlace : (Rows.ribLeastRow.inPlace == Tryd.prog.inPlace 7) = true := by kernel_rfl
theorem ribLeast_unfollowed : (Rows.ribLeastRow.unfollowed == Tryd.prog.unfollowed 7) = true := by kernel_rfl
theorem ribLeast_recurses : (Rows.ribLeastRow.recurses == Tryd.prog.recurses 7) = true := by kernel_rfl
theorem ribLeast_varsNamed : (Rows.ribLeastRow.named == Tryd.prog.varsNamed 7) = true := by kernel_rfl
theorem ribLeast_lifts : (Rows.ribLeastRow.lifted == Tryd.prog.liftsFinal) = true := by kernel_rfl
theorem ribLeast_make : (Tryd.prog.make == some Rows.ribLeastRow.make) = true := by kernel_rfl
theorem ribLeast_joined : joinedFacts Tryd.prog 7 Tryd.f7 Rows.ribLeastSpec Rows.ribLeastRow = true :=
  joined_mk ribLeast_wf fact_out fact_rowed (by as_aux_lemma => kernel_rfl) ribLeast_tie rfl fact_stops rfl fact_knobs ribLeast_inPlace ribLeast_unfollowed ribLeast_recurses ribLeast_varsNamed
    (by as_aux_lemma => kernel_rfl) (by as_aux_lemma => kernel_rfl) (by as_aux_lemma => kernel_rfl) (by as_aux_lemma => kernel_rfl) (by as_aux_lemma => kernel_rfl)
    (by as_aux_lemma => kernel_rfl) (by as_aux_lemma => kernel_rfl) (by as_aux_lemma => kernel_rfl) (by as_aux_lemma => kernel_rfl) (by as_aux_lemma => kernel_rfl) rfl
    fact_heard fact_enter ribLeast_lifts ribLeast_make (by as_aux_lemma => kernel_rfl) (by as_aux_lemma => kernel_rfl) (by as_aux_lemma => kernel_rfl) (by as_aux_lemma => kernel_rfl)
theorem ribLeast_row_holds : Rows.RibLeastSaid :=
  OpenClaim.holds_of_wide 7 Tryd.f7 rfl rfl rfl rfl rfl rfl rfl ⟨rfl, rfl, rfl, rfl, rfl⟩ rfl rfl rfl rfl rfl ribLeast_named Tryd.func7 ribLeast_joined
    (of_decide_eq_true (by as_aux_lemma => kernel_rfl)) (by unfold Func.isWrapper; first | (rw [if_pos (by as_aux_lemma => decide +kernel)]; as_aux_lemma => kernel_rfl) | (rw [if_neg (by as_aux_lemma => decide +kernel)]; exact ⟨rfl, rfl⟩))
    (fun os started H enc _ => ribLeast_lifted os started H enc)
theorem ribLeast_holds : Rows.RibLeastCardSaid :=
  Claim7.holds_tied_plain_at .later [] [.sentinel, .sentinel, .sentinel, .sentinel, .sentinel, .sentinel, .sentinel] true (true, "8d9ddd940d4b1a4ef888d1fa30e514bf5d37f6146e4549fb7c9ec065c9860c75") false
    ribLeast_row_holds (fun _ h => by cases h) (by as_aux_lemma => kernel_rfl) (fun _ h => by cases h) ribLeast_row_tie rfl ⟨rfl, rfl⟩ (by as_aux_lemma => kernel_rfl) rfl
    (fun f fn hf hfn => by
      obtain rfl : f = 7 := Option.some.inj (ribLeast_named.symm.trans hf) |>.symm
      obtain rfl : fn = Tryd.f7 := (Option.some.inj (Tryd.func7.symm.trans hfn)).symm
      exact ⟨by as_aux_lemma => kernel_rfl, fun j t ht => by
        have hpar : Tryd.f7.params.toList.all (fun u => [3, 22].contains u) = true := by as_aux_lemma => kernel_rfl
        have hmem : t ∈ Tryd.f7.params.toList := List.mem_of_getElem? (i := j) (by simpa using ht)
        have hm : t ∈ [3, 22] := by simpa using List.all_eq_true.1 hpar t hmem
        have hall : ([3, 22].all fun u => !Tryd.prog.wantsStandIn u) = true := by as_aux_lemma => kernel_rfl
        exact (show Tryd.prog.wantsStandIn t = false by simpa using List.all_eq_true.1 hall t hm)⟩)
    (by as_aux_lemma => kernel_rfl)
end Go.Proofs.YtjceingdmfogeaaDoor
