import Derived.Test.YtjceingdmfogeaaDoorGaPRibLinesA
set_option linter.unusedVariables false
set_option linter.unusedSimpArgs false
namespace Go.Proofs.YtjceingdmfogeaaDoor
open Go.RowKit VL
theorem ribLines_named : Tryd.prog.funcNamed Rows.ribLinesRow.func = some 5 := by kernel_rfl
theorem ribLines_wf : Rows.ribLinesRow.wf (OpenSpec.ofChange Rows.ribLinesSpec) = true := by kernel_rfl
theorem ribLines_tie : namedTie Tryd.prog Rows.ribLinesRow.named Rows.ribLinesSpec.vars = true := by kernel_rfl
theorem ribLines_inPlace : (Rows.ribLinesRow.inPlace == Tryd.prog.inPlace 5) = true := by kernel_rfl
theorem ribLines_unfollowed : (Rows.ribLinesRow.unfollowed == Tryd.prog.unfollowed 5) = true := by kernel_rfl
theorem ribLines_recurses : (Rows.ribLinesRow.recurses == Tryd.prog.recurses 5) = true := by kernel_rfl
theorem ribLines_varsNamed : (Rows.ribLinesRow.named == Tryd.prog.varsNamed 5) = true := by kernel_rfl
theorem ribLines_lifts : (Rows.ribLinesRow.lifted == Tryd.prog.liftsFinal) = true := by kernel_rfl
theorem ribLines_make : (Tryd.prog.make == some Rows.ribLinesRow.make) = true := by kernel_rfl
theorem ribLines_joined : joinedFacts Tryd.prog 5 Tryd.f5 Rows.ribLinesSpec Rows.ribLinesRow = true :=
  joined_mk ribLines_wf fact_out fact_rowed (by as_aux_lemma => kernel_rfl) ribLines_tie rfl fact_stops rfl fact_knobs ribLines_inPlace ribLines_unfollowed ribLines_recurses ribLines_varsNamed
    (by as_aux_lemma => kernel_rfl) (by as_aux_lemma => kernel_rfl) (by as_aux_lemma => kernel_rfl) (by as_aux_lemma => kernel_rfl) (by as_aux_lemma => kernel_rfl)
    (by as_aux_lemma => kernel_rfl) (by as_aux_lemma => kernel_rfl) (by as_aux_lemma => kernel_rfl) (by as_aux_lemma => kernel_rfl) (by as_aux_lemma => kernel_rfl) rfl
    fact_heard fact_enter ribLines_lifts ribLines_make (by as_aux_lemma => kernel_rfl) (by as_aux_lemma => kernel_rfl) (by as_aux_lemma => kernel_rfl) (by as_aux_lemma => kernel_rfl)
theorem ribLines_row_holds : Rows.RibLinesSaid :=
  OpenClaim.holds_of_wide 5 Tryd.f5 rfl rfl rfl rfl rfl rfl rfl ⟨rfl, rfl, rfl, rfl, rfl⟩ rfl rfl rfl rfl rfl ribLines_named Tryd.func5 ribLines_joined
    (of_decide_eq_true (by as_aux_lemma => kernel_rfl)) (by unfold Func.isWrapper; first | (rw [if_pos (by as_aux_lemma => decide +kernel)]; as_aux_lemma => kernel_rfl) | (rw [if_neg (by as_aux_lemma => decide +kernel)]; exact ⟨rfl, rfl⟩))
    (fun os started H enc _ => ribLines_lifted os started H enc)
theorem ribLines_holds : Rows.RibLinesCardSaid :=
  Claim7.holds_tied_plain_at .later [] [.sentinel, .sentinel, .sentinel, .sentinel, .sentinel, .sentinel, .sentinel] true (true, "8d9ddd940d4b1a4ef888d1fa30e514bf5d37f6146e4549fb7c9ec065c9860c75") false
    ribLines_row_holds (fun _ h => by cases h) (by as_aux_lemma => kernel_rfl) (fun _ h => by cases h) ribLines_row_tie rfl ⟨rfl, rfl⟩ (by as_aux_lemma => kernel_rfl) rfl
    (fun f fn hf hfn => by
      obtain rfl : f = 5 := Option.some.inj (ribLines_named.symm.trans hf) |>.symm
      obtain rfl : fn = Tryd.f5 := (Option.some.inj (Tryd.func5.symm.trans hfn)).symm
      exact ⟨by as_aux_lemma => kernel_rfl, fun j t ht => by
        have hpar : Tryd.f5.params.toList.all (fun u => [3].contains u) = true := by as_aux_lemma => kernel_rfl
        have hmem : t ∈ Tryd.f5.params.toList := List.mem_of_getElem? (i := j) (by simpa using ht)
        have hm : t ∈ [3] := by simpa using List.all_eq_true.1 hpar t hmem
        have hall : ([3].all fun u => !Tryd.prog.wantsStandIn u) = true := by as_aux_lemma => kernel_rfl
        exact (show Tryd.prog.wantsStandIn t = false by simpa using List.all_eq_true.1 hall t hm)⟩)
    (by as_aux_lemma => kernel_rfl)
end Go.Proofs.YtjceingdmfogeaaDoor
