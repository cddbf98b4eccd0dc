import Derived.Test.YtelbgkknneljeaaGreatDoorGfPRpfLinesA
set_option linter.unusedVariables false
set_option linter.unusedSimpArgs false
namespace Go.Proofs.YtelbgkknneljeaaGreatDoor
open Go.RowKit VL
theorem rpfLines_named : Tryz.prog.funcNamed Rows.rpfLinesRow.func = some 4 := by kernel_rfl
theorem rpfLines_wf : Rows.rpfLinesRow.wf (OpenSpec.ofChange Rows.rpfLinesSpec) = true := by kernel_rfl
theorem rpfLines_tie : namedTie Tryz.prog Rows.rpfLinesRow.named Rows.rpfLinesSpec.vars = true := by kernel_rfl
theorem rpfLines_inPlace : (Rows.rpfLinesRow.inPlace == Tryz.prog.inPlace 4) = true := by kernel_rfl
theorem rpfLines_unfollowed : (Rows.rpfLinesRow.unfollowed == Tryz.prog.unfollowed 4) = true := by kernel_rfl
theorem rpfLines_recurses : (Rows.rpfLinesRow.recurses == Tryz.prog.recurses 4) = true := by kernel_rfl
theorem rpfLines_varsNamed : (Rows.rpfLinesRow.named == Tryz.prog.varsNamed 4) = true := by kernel_rfl
theorem rpfLines_lifts : (Rows.rpfLinesRow.lifted == Tryz.prog.liftsFinal) = true := by kernel_rfl
theorem rpfLines_make : (Tryz.prog.make == some Rows.rpfLinesRow.make) = true := by kernel_rfl
theorem rpfLines_joined : joinedFacts Tryz.prog 4 Tryz.f4 Rows.rpfLinesSpec Rows.rpfLinesRow = true :=
  joined_mk rpfLines_wf fact_out fact_rowed (by as_aux_lemma => kernel_rfl) rpfLines_tie rfl fact_stops rfl fact_knobs rpfLines_inPlace rpfLines_unfollowed rpfLines_recurses rpfLines_varsNamed
    (by as_aux_lemma => kernel_rfl) (by as_aux_lemma => kernel_rfl) (by as_aux_lemma => kernel_rfl) (by as_aux_lemma => kernel_rfl) (by as_aux_lemma => kernel_rfl)
    (by as_aux_lemma => kernel_rfl) (by as_aux_lemma => kernel_rfl) (by as_aux_lemma => kernel_rfl) (by as_aux_lemma => kernel_rfl) (by as_aux_lemma => kernel_rfl) rfl
    fact_heard fact_enter rpfLines_lifts rpfLines_make (by as_aux_lemma => kernel_rfl) (by as_aux_lemma => kernel_rfl) (by as_aux_lemma => kernel_rfl) (by as_aux_lemma => kernel_rfl)
theorem rpfLines_row_holds : Rows.RpfLinesSaid :=
  OpenClaim.holds_of_wide 4 Tryz.f4 rfl rfl rfl rfl rfl rfl rfl ⟨rfl, rfl, rfl, rfl, rfl⟩ rfl rfl rfl rfl rfl rpfLines_named Tryz.func4 rpfLines_joined
    (of_decide_eq_true (by as_aux_lemma => kernel_rfl)) (by unfold Func.isWrapper; first | (rw [if_pos (by as_aux_lemma => decide +kernel)]; as_aux_lemma => kernel_rfl) | (rw [if_neg (by as_aux_lemma => decide +kernel)]; exact ⟨rfl, rfl⟩))
    (fun os started H enc _ => rpfLines_lifted os started H enc)
theorem rpfLines_holds : Rows.RpfLinesCardSaid :=
  Claim7.holds_tied_plain_at .later [] [.sentinel, .sentinel, .sentinel, .sentinel, .sentinel, .sentinel, .sentinel] true (true, "e5170db7ce12b4a8f4a60398c10b1e461cfb632e792fbc5b71d448cfd13463d4") false
    rpfLines_row_holds (fun _ h => by cases h) (by as_aux_lemma => kernel_rfl) (fun _ h => by cases h) rpfLines_row_tie rfl ⟨rfl, rfl⟩ (by as_aux_lemma => kernel_rfl) rfl
    (fun f fn hf hfn => by
      obtain rfl : f = 4 := Option.some.inj (rpfLines_named.symm.trans hf) |>.symm
      obtain rfl : fn = Tryz.f4 := (Option.some.inj (Tryz.func4.symm.trans hfn)).symm
      exact ⟨by as_aux_lemma => kernel_rfl, fun j t ht => by
        have hpar : Tryz.f4.params.toList.all (fun u => [3].contains u) = true := by as_aux_lemma => kernel_rfl
        have hmem : t ∈ Tryz.f4.params.toList := List.mem_of_getElem? (i := j) (by simpa using ht)
        have hm : t ∈ [3] := by simpa using List.all_eq_true.1 hpar t hmem
        have hall : ([3].all fun u => !Tryz.prog.wantsStandIn u) = true := by as_aux_lemma => kernel_rfl
        exact (show Tryz.prog.wantsStandIn t = false by simpa using List.all_eq_true.1 hall t hm)⟩)
    (by as_aux_lemma => kernel_rfl)
end Go.Proofs.YtelbgkknneljeaaGreatDoor
