import Derived.Test.YtelbgkknneljeaaGreatDoorGcPRpfUpA
set_option linter.unusedVariables false
set_option linter.unusedSimpArgs false
namespace Go.Proofs.YtelbgkknneljeaaGreatDoor
open Go.RowKit VL
theorem rpfUp_named : Tryz.prog.funcNamed Rows.rpfUpRow.func = some 5 := by kernel_rfl
theorem rpfUp_wf : Rows.rpfUpRow.wf (OpenSpec.ofChange Rows.rpfUpSpec) = true := by kernel_rfl
theorem rpfUp_tie : namedTie Tryz.prog Rows.rpfUpRow.named Rows.rpfUpSpec.vars = true := by kernel_rfl
theorem rpfUp_inPlace : (Rows.rpfUpRow.inPlace == Tryz.prog.inPlace 5) = true := by kernel_rfl
theorem rpfUp_unfollowed : (Rows.rpfUpRow.unfollowed == Tryz.prog.unfollowed 5) = true := by kernel_rfl
theorem rpfUp_recurses : (Rows.rpfUpRow.recurses == Tryz.prog.recurses 5) = true := by kernel_rfl
theorem rpfUp_varsNamed : (Rows.rpfUpRow.named == Tryz.prog.varsNamed 5) = true := by kernel_rfl
theorem rpfUp_lifts : (Rows.rpfUpRow.lifted == Tryz.prog.liftsFinal) = true := by kernel_rfl
theorem rpfUp_make : (Tryz.prog.make == some Rows.rpfUpRow.make) = true := by kernel_rfl
theorem rpfUp_joined : joinedFacts Tryz.prog 5 Tryz.f5 Rows.rpfUpSpec Rows.rpfUpRow = true :=
  joined_mk rpfUp_wf fact_out fact_rowed (by as_aux_lemma => kernel_rfl) rpfUp_tie rfl fact_stops rfl fact_knobs rpfUp_inPlace rpfUp_unfollowed rpfUp_recurses rpfUp_varsNamed
    (by as_aux_lemma => kernel_rfl) (by as_aux_lemma => kernel_rfl) (by as_aux_lemma => kernel_rfl) (by as_aux_lemma => kernel_rfl) (by as_aux_lemma => kernel_rfl)
    (by as_aux_lemma => kernel_rfl) (by as_aux_lemma => kernel_rfl) (by as_aux_lemma => kernel_rfl) (by as_aux_lemma => kernel_rfl) (by as_aux_lemma => kernel_rfl) rfl
    fact_heard fact_enter rpfUp_lifts rpfUp_make (by as_aux_lemma => kernel_rfl) (by as_aux_lemma => kernel_rfl) (by as_aux_lemma => kernel_rfl) (by as_aux_lemma => kernel_rfl)
theorem rpfUp_row_holds : Rows.RpfUpSaid :=
  OpenClaim.holds_of_wide 5 Tryz.f5 rfl rfl rfl rfl rfl rfl rfl ⟨rfl, rfl, rfl, rfl, rfl⟩ rfl rfl rfl rfl rfl rpfUp_named Tryz.func5 rpfUp_joined
    (of_decide_eq_true (by as_aux_lemma => kernel_rfl)) (by unfold Func.isWrapper; first | (rw [if_pos (by as_aux_lemma => decide +kernel)]; as_aux_lemma => kernel_rfl) | (rw [if_neg (by as_aux_lemma => decide +kernel)]; exact ⟨rfl, rfl⟩))
    (fun os started H enc _ => rpfUp_lifted os started H enc)
theorem rpfUp_holds : Rows.RpfUpCardSaid :=
  Claim7.holds_tied_plain_at .later [] [.sentinel, .sentinel, .sentinel, .sentinel, .sentinel, .sentinel, .sentinel] true (true, "e5170db7ce12b4a8f4a60398c10b1e461cfb632e792fbc5b71d448cfd13463d4") false
    rpfUp_row_holds (fun _ h => by cases h) (by as_aux_lemma => kernel_rfl) (fun _ h => by cases h) rpfUp_row_tie rfl ⟨rfl, rfl⟩ (by as_aux_lemma => kernel_rfl) rfl
    (fun f fn hf hfn => by
      obtain rfl : f = 5 := Option.some.inj (rpfUp_named.symm.trans hf) |>.symm
      obtain rfl : fn = Tryz.f5 := (Option.some.inj (Tryz.func5.symm.trans hfn)).symm
      exact ⟨by as_aux_lemma => kernel_rfl, fun j t ht => by
        have hpar : Tryz.f5.params.toList.all (fun u => [3, 30, 42].contains u) = true := by as_aux_lemma => kernel_rfl
        have hmem : t ∈ Tryz.f5.params.toList := List.mem_of_getElem? (i := j) (by simpa using ht)
        have hm : t ∈ [3, 30, 42] := by simpa using List.all_eq_true.1 hpar t hmem
        have hall : ([3, 30, 42].all fun u => !Tryz.prog.wantsStandIn u) = true := by as_aux_lemma => kernel_rfl
        exact (show Tryz.prog.wantsStandIn t = false by simpa using List.all_eq_true.1 hall t hm)⟩)
    (by as_aux_lemma => kernel_rfl)
end Go.Proofs.YtelbgkknneljeaaGreatDoor
