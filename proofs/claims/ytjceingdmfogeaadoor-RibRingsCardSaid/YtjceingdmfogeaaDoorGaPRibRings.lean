import Derived.Test.YtjceingdmfogeaaDoorGaPRibRingsA
set_option linter.unusedVariables false
set_option linter.unusedSimpArgs false
namespace Go.Proofs.YtjceingdmfogeaaDoor
open Go.RowKit VL
theorem ribRings_named : Tryd.prog.funcNamed Rows.ribRingsRow.func = some 8 := by kernel_rfl
theorem ribRings_wf : Rows.ribRingsRow.wf (OpenSpec.ofChange Rows.ribRingsSpec) = true := by kernel_rfl
theorem ribRings_tie : namedTie Tryd.prog Rows.ribRingsRow.named Rows.ribRingsSpec.vars = true := by kernel_rfl
theorem ribRings_inPlace : (Rows.ribRingsRow.inPlace == Tryd.prog.inPlace 8) = true := by kernel_rfl
theorem ribRings_unfollowed : (Rows.ribRingsRow.unfollowed == Tryd.prog.unfollowed 8) = true := by kernel_rfl
theorem ribRings_recurses : (Rows.ribRingsRow.recurses == Tryd.prog.recurses 8) = true := by kernel_rfl
theorem ribRings_varsNamed : (Rows.ribRingsRow.named == Tryd.prog.varsNamed 8) = true := by kernel_rfl
theorem ribRings_lifts : (Rows.ribRingsRow.lifted == Tryd.prog.liftsFinal) = true := by kernel_rfl
theorem ribRings_make : (Tryd.prog.make == some Rows.ribRingsRow.make) = true := by kernel_rfl
theorem ribRings_joined : joinedFacts Tryd.prog 8 Tryd.f8 Rows.ribRingsSpec Rows.ribRingsRow = true :=
  joined_mk ribRings_wf fact_out fact_rowed (by as_aux_lemma => kernel_rfl) ribRings_tie rfl fact_stops rfl fact_knobs ribRings_inPlace ribRings_unfollowed ribRings_recurses ribRings_varsNamed
    (by as_aux_lemma => kernel_rfl) (by as_aux_lemma => kernel_rfl) (by as_aux_lemma => kernel_rfl) (by as_aux_lemma => kernel_rfl) (by as_aux_lemma => kernel_rfl)
    (by as_aux_lemma => kernel_rfl) (by as_aux_lemma => kernel_rfl) (by as_aux_lemma => kernel_rfl) (by as_aux_lemma => kernel_rfl) (by as_aux_lemma => kernel_rfl) rfl
    fact_heard fact_enter ribRings_lifts ribRings_make (by as_aux_lemma => kernel_rfl) (by as_aux_lemma => kernel_rfl) (by as_aux_lemma => kernel_rfl) (by as_aux_lemma => kernel_rfl)
theorem ribRings_row_holds : Rows.RibRingsSaid :=
  OpenClaim.holds_of_wide 8 Tryd.f8 rfl rfl rfl rfl rfl rfl rfl ⟨rfl, rfl, rfl, rfl, rfl⟩ rfl rfl rfl rfl rfl ribRings_named Tryd.func8 ribRings_joined
    (of_decide_eq_true (by as_aux_lemma => kernel_rfl)) (by unfold Func.isWrapper; first | (rw [if_pos (by as_aux_lemma => decide +kernel)]; as_aux_lemma => kernel_rfl) | (rw [if_neg (by as_aux_lemma => decide +kernel)]; exact ⟨rfl, rfl⟩))
    (fun os started H enc _ => ribRings_lifted os started H enc)
theorem ribRings_holds : Rows.RibRingsCardSaid :=
  Claim7.holds_tied_plain_at .later [] [.sentinel, .sentinel, .sentinel, .sentinel, .sentinel, .sentinel, .sentinel] true (true, "8d9ddd940d4b1a4ef888d1fa30e514bf5d37f6146e4549fb7c9ec065c9860c75") false
    ribRings_row_holds (fun _ h => by cases h) (by as_aux_lemma => kernel_rfl) (fun _ h => by cases h) ribRings_row_tie rfl ⟨rfl, rfl⟩ (by as_aux_lemma => kernel_rfl) rfl
    (fun f fn hf hfn => by
      obtain rfl : f = 8 := Option.some.inj (ribRings_named.symm.trans hf) |>.symm
      obtain rfl : fn = Tryd.f8 := (Option.some.inj (Tryd.func8.symm.trans hfn)).symm
      exact ⟨by as_aux_lemma => kernel_rfl, fun j t ht => by
        have hpar : Tryd.f8.params.toList.all (fun u => [3, 45].contains u) = true := by as_aux_lemma => kernel_rfl
        have hmem : t ∈ Tryd.f8.params.toList := List.mem_of_getElem? (i := j) (by simpa using ht)
        have hm : t ∈ [3, 45] := by simpa using List.all_eq_true.1 hpar t hmem
        have hall : ([3, 45].all fun u => !Tryd.prog.wantsStandIn u) = true := by as_aux_lemma => kernel_rfl
        exact (show Tryd.prog.wantsStandIn t = false by simpa using List.all_eq_true.1 hall t hm)⟩)
    (by as_aux_lemma => kernel_rfl)
end Go.Proofs.YtjceingdmfogeaaDoor
