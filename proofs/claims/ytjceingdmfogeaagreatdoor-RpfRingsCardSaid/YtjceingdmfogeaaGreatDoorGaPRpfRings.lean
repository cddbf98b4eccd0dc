import Derived.Test.YtjceingdmfogeaaGreatDoorGaPRpfRingsA
set_option linter.unusedVariables false
set_option linter.unusedSimpArgs false
namespace Go.Proofs.YtjceingdmfogeaaGreatDoor
open Go.RowKit VL
theorem rpfRings_named : Tryz.prog.funcNamed Rows.rpfRingsRow.func = some 4 := by kernel_rfl
theorem rpfRings_wf : Rows.rpfRingsRow.wf (OpenSpec.ofChange Rows.rpfRingsSpec) = true := by kernel_rfl
theorem rpfRings_tie : namedTie Tryz.prog Rows.rpfRingsRow.named Rows.rpfRingsSpec.vars = true := by kernel_rfl
theorem rpfRings_inPlace : (Rows.rpfRingsRow.inPlace == Tryz.prog.inPlace 4) = true := by kernel_rfl
theorem rpfRings_unfollowed : (Rows.rpfRingsRow.unfollowed == Tryz.prog.unfollowed 4) = true := by kernel_rfl
theorem rpfRings_recurses : (Rows.rpfRingsRow.recurses == Tryz.prog.recurses 4) = true := by kernel_rfl
theorem rpfRings_varsNamed : (Rows.rpfRingsRow.named == Tryz.prog.varsNamed 4) = true := by kernel_rfl
theorem rpfRings_lifts : (Rows.rpfRingsRow.lifted == Tryz.prog.liftsFinal) = true := by kernel_rfl
theorem rpfRings_make : (Tryz.prog.make == some Rows.rpfRingsRow.make) = true := by kernel_rfl
theorem rpfRings_joined : joinedFacts Tryz.prog 4 Tryz.f4 Rows.rpfRingsSpec Rows.rpfRingsRow = true :=
  joined_mk rpfRings_wf fact_out fact_rowed (by as_aux_lemma => kernel_rfl) rpfRings_tie rfl fact_stops rfl fact_knobs rpfRings_inPlace rpfRings_unfollowed rpfRings_recurses rpfRings_varsNamed
    (by as_aux_lemma => kernel_rfl) (by as_aux_lemma => kernel_rfl) (by as_aux_lemma => kernel_rfl) (by as_aux_lemma => kernel_rfl) (by as_aux_lemma => kernel_rfl)
    (by as_aux_lemma => kernel_rfl) (by as_aux_lemma => kernel_rfl) (by as_aux_lemma => kernel_rfl) (by as_aux_lemma => kernel_rfl) (by as_aux_lemma => kernel_rfl) rfl
    fact_heard fact_enter rpfRings_lifts rpfRings_make (by as_aux_lemma => kernel_rfl) (by as_aux_lemma => kernel_rfl) (by as_aux_lemma => kernel_rfl) (by as_aux_lemma => kernel_rfl)
theorem rpfRings_row_holds : Rows.RpfRingsSaid :=
  OpenClaim.holds_of_wide 4 Tryz.f4 rfl rfl rfl rfl rfl rfl rfl ⟨rfl, rfl, rfl, rfl, rfl⟩ rfl rfl rfl rfl rfl rpfRings_named Tryz.func4 rpfRings_joined
    (of_decide_eq_true (by as_aux_lemma => kernel_rfl)) (by unfold Func.isWrapper; first | (rw [if_pos (by as_aux_lemma => decide +kernel)]; as_aux_lemma => kernel_rfl) | (rw [if_neg (by as_aux_lemma => decide +kernel)]; exact ⟨rfl, rfl⟩))
    (fun os started H enc _ => rpfRings_lifted os started H enc)
theorem rpfRings_holds : Rows.RpfRingsCardSaid :=
  Claim7.holds_tied_plain_at .later [] [.data, .data, .data, .sentinel, .sentinel, .sentinel, .sentinel, .sentinel, .sentinel, .sentinel] true (true, "8d77312236e50474dcf08c242c767a29215860cbb6d6597dc0c93eacbd5bca85") false
    rpfRings_row_holds (fun _ h => by cases h) (by as_aux_lemma => kernel_rfl) (fun _ h => by cases h) rpfRings_row_tie rfl ⟨rfl, rfl⟩ (by as_aux_lemma => kernel_rfl) rfl
    (fun f fn hf hfn => by
      obtain rfl : f = 4 := Option.some.inj (rpfRings_named.symm.trans hf) |>.symm
      obtain rfl : fn = Tryz.f4 := (Option.some.inj (Tryz.func4.symm.trans hfn)).symm
      exact ⟨by as_aux_lemma => kernel_rfl, fun j t ht => by
        have hpar : Tryz.f4.params.toList.all (fun u => [3, 4].contains u) = true := by as_aux_lemma => kernel_rfl
        have hmem : t ∈ Tryz.f4.params.toList := List.mem_of_getElem? (i := j) (by simpa using ht)
        have hm : t ∈ [3, 4] := by simpa using List.all_eq_true.1 hpar t hmem
        have hall : ([3, 4].all fun u => !Tryz.prog.wantsStandIn u) = true := by as_aux_lemma => kernel_rfl
        exact (show Tryz.prog.wantsStandIn t = false by simpa using List.all_eq_true.1 hall t hm)⟩)
    (by as_aux_lemma => kernel_rfl)
end Go.Proofs.YtjceingdmfogeaaGreatDoor
