import Derived.Test.YtjceingdmfogeaaGreatDoorGaPRibConnectedA
set_option linter.unusedVariables false
set_option linter.unusedSimpArgs false
namespace Go.Proofs.YtjceingdmfogeaaGreatDoor
open Go.RowKit VL
theorem ribConnected_named : Tryz.prog.funcNamed Rows.ribConnectedRow.func = some 3 := by kernel_rfl
theorem ribConnected_wf : Rows.ribConnectedRow.wf (OpenSpec.ofChange Rows.ribConnectedSpec) = true := by kernel_rfl
theorem ribConnected_tie : namedTie Tryz.prog Rows.ribConnectedRow.named Rows.ribConnectedSpec.vars = true := by kernel_rfl
theorem ribConnected_inPlace : (Rows.ribConnectedRow.inPlace == Tryz.prog.inPlace 3) = true := by kernel_rfl
theorem ribConnected_unfollowed : (Rows.ribConnectedRow.unfollowed == Tryz.prog.unfollowed 3) = true := by kernel_rfl
theorem ribConnected_recurses : (Rows.ribConnectedRow.recurses == Tryz.prog.recurses 3) = true := by kernel_rfl
theorem ribConnected_varsNamed : (Rows.ribConnectedRow.named == Tryz.prog.varsNamed 3) = true := by kernel_rfl
theorem ribConnected_lifts : (Rows.ribConnectedRow.lifted == Tryz.prog.liftsFinal) = true := by kernel_rfl
theorem ribConnected_make : (Tryz.prog.make == some Rows.ribConnectedRow.make) = true := by kernel_rfl
theorem ribConnected_joined : joinedFacts Tryz.prog 3 Tryz.f3 Rows.ribConnectedSpec Rows.ribConnectedRow = true :=
  joined_mk ribConnected_wf fact_out fact_rowed (by as_aux_lemma => kernel_rfl) ribConnected_tie rfl fact_stops rfl fact_knobs ribConnected_inPlace ribConnected_unfollowed ribConnected_recurses ribConnected_varsNamed
    (by as_aux_lemma => kernel_rfl) (by as_aux_lemma => kernel_rfl) (by as_aux_lemma => kernel_rfl) (by as_aux_lemma => kernel_rfl) (by as_aux_lemma => kernel_rfl)
    (by as_aux_lemma => kernel_rfl) (by as_aux_lemma => kernel_rfl) (by as_aux_lemma => kernel_rfl) (by as_aux_lemma => kernel_rfl) (by as_aux_lemma => kernel_rfl) rfl
    fact_heard fact_enter ribConnected_lifts ribConnected_make (by as_aux_lemma => kernel_rfl) (by as_aux_lemma => kernel_rfl) (by as_aux_lemma => kernel_rfl) (by as_aux_lemma => kernel_rfl)
theorem ribConnected_row_holds : Rows.RibConnectedSaid :=
  OpenClaim.holds_of_wide 3 Tryz.f3 rfl rfl rfl rfl rfl rfl rfl ⟨rfl, rfl, rfl, rfl, rfl⟩ rfl rfl rfl rfl rfl ribConnected_named Tryz.func3 ribConnected_joined
    (of_decide_eq_true (by as_aux_lemma => kernel_rfl)) (by unfold Func.isWrapper; first | (rw [if_pos (by as_aux_lemma => decide +kernel)]; as_aux_lemma => kernel_rfl) | (rw [if_neg (by as_aux_lemma => decide +kernel)]; exact ⟨rfl, rfl⟩))
    (fun os started H enc _ => ribConnected_lifted os started H enc)
theorem ribConnected_holds : Rows.RibConnectedCardSaid :=
  Claim7.holds_tied_plain_at .later [] [.data, .data, .data, .sentinel, .sentinel, .sentinel, .sentinel, .sentinel, .sentinel, .sentinel] true (true, "8d77312236e50474dcf08c242c767a29215860cbb6d6597dc0c93eacbd5bca85") false
    ribConnected_row_holds (fun _ h => by cases h) (by as_aux_lemma => kernel_rfl) (fun _ h => by cases h) ribConnected_row_tie rfl ⟨rfl, rfl⟩ (by as_aux_lemma => kernel_rfl) rfl
    (fun f fn hf hfn => by
      obtain rfl : f = 3 := Option.some.inj (ribConnected_named.symm.trans hf) |>.symm
      obtain rfl : fn = Tryz.f3 := (Option.some.inj (Tryz.func3.symm.trans hfn)).symm
      exact ⟨by as_aux_lemma => kernel_rfl, fun j t ht => by
        have hpar : Tryz.f3.params.toList.all (fun u => [3].contains u) = true := by as_aux_lemma => kernel_rfl
        have hmem : t ∈ Tryz.f3.params.toList := List.mem_of_getElem? (i := j) (by simpa using ht)
        have hm : t ∈ [3] := by simpa using List.all_eq_true.1 hpar t hmem
        have hall : ([3].all fun u => !Tryz.prog.wantsStandIn u) = true := by as_aux_lemma => kernel_rfl
        exact (show Tryz.prog.wantsStandIn t = false by simpa using List.all_eq_true.1 hall t hm)⟩)
    (by as_aux_lemma => kernel_rfl)
end Go.Proofs.YtjceingdmfogeaaGreatDoor
