import Derived.Test.YtelbgkknneljeaaGreatDoorGePRpfSaysA
set_option linter.unusedVariables false
set_option linter.unusedSimpArgs false
namespace Go.Proofs.YtelbgkknneljeaaGreatDoor
open Go.RowKit VL
theorem rpfSays_named : Tryz.prog.funcNamed Rows.rpfSaysRow.func = some 7 := by kernel_rfl
theorem rpfSays_wf : Rows.rpfSaysRow.wf (OpenSpec.ofChange Rows.rpfSaysSpec) = true := by kernel_rfl
theorem rpfSays_tie : namedTie Tryz.prog Rows.rpfSaysRow.named Rows.rpfSaysSpec.vars = true := by kernel_rfl
theorem rpfSays_inPlace : (Rows.rpfSaysRow.inPlace == Tryz.prog.inPlace 7) = true := by kernel_rfl
theorem rpfSays_unfollowed : (Rows.rpfSaysRow.unfollowed == Tryz.prog.unfollowed 7) = true := by kernel_rfl
theorem rpfSays_recurses : (Rows.rpfSaysRow.recurses == Tryz.prog.recurses 7) = true := by kernel_rfl
theorem rpfSays_varsNamed : (Rows.rpfSaysRow.named == Tryz.prog.varsNamed 7) = true := by kernel_rfl
theorem rpfSays_lifts : (Rows.rpfSaysRow.lifted == Tryz.prog.liftsFinal) = true := by kernel_rfl
theorem rpfSays_make : (Tryz.prog.make == some Rows.rpfSaysRow.make) = true := by kernel_rfl
theorem rpfSays_joined : joinedFacts Tryz.prog 7 Tryz.f7 Rows.rpfSaysSpec Rows.rpfSaysRow = true :=
  joined_mk rpfSays_wf fact_out fact_rowed (by as_aux_lemma => kernel_rfl) rpfSays_tie rfl fact_stops rfl fact_knobs rpfSays_inPlace rpfSays_unfollowed rpfSays_recurses rpfSays_varsNamed
    (by as_aux_lemma => kernel_rfl) (by as_aux_lemma => kernel_rfl) (by as_aux_lemma => kernel_rfl) (by as_aux_lemma => kernel_rfl) (by as_aux_lemma => kernel_rfl)
    (by as_aux_lemma => kernel_rfl) (by as_aux_lemma => kernel_rfl) (by as_aux_lemma => kernel_rfl) (by as_aux_lemma => kernel_rfl) (by as_aux_lemma => kernel_rfl) rfl
    fact_heard fact_enter rpfSays_lifts rpfSays_make (by as_aux_lemma => kernel_rfl) (by as_aux_lemma => kernel_rfl) (by as_aux_lemma => kernel_rfl) (by as_aux_lemma => kernel_rfl)
theorem rpfSays_row_holds : Rows.RpfSaysSaid :=
  OpenClaim.holds_of_wide 7 Tryz.f7 rfl rfl rfl rfl rfl rfl rfl ⟨rfl, rfl, rfl, rfl, rfl⟩ rfl rfl rfl rfl rfl rpfSays_named Tryz.func7 rpfSays_joined
    (of_decide_eq_true (by as_aux_lemma => kernel_rfl)) (by unfold Func.isWrapper; first | (rw [if_pos (by as_aux_lemma => decide +kernel)]; as_aux_lemma => kernel_rfl) | (rw [if_neg (by as_aux_lemma => decide +kernel)]; exact ⟨rfl, rfl⟩))
    (fun os started H enc _ => rpfSays_lifted os started H enc)
theorem rpfSays_holds : Rows.RpfSaysCardSaid :=
  Claim7.holds_tied_plain_at .later [] [.sentinel, .sentinel, .sentinel, .sentinel, .sentinel, .sentinel, .sentinel] true (true, "e5170db7ce12b4a8f4a60398c10b1e461cfb632e792fbc5b71d448cfd13463d4") false
    rpfSays_row_holds (fun _ h => by cases h) (by as_aux_lemma => kernel_rfl) (fun _ h => by cases h) rpfSays_row_tie rfl ⟨rfl, rfl⟩ (by as_aux_lemma => kernel_rfl) rfl
    (fun f fn hf hfn => by
      obtain rfl : f = 7 := Option.some.inj (rpfSays_named.symm.trans hf) |>.symm
      obtain rfl : fn = Tryz.f7 := (Option.some.inj (Tryz.func7.symm.trans hfn)).symm
      exact ⟨by as_aux_lemma => kernel_rfl, fun j t ht => by
        have hpar : Tryz.f7.params.toList.all (fun u => [3, 30, 31, 73].contains u) = true := by as_aux_lemma => kernel_rfl
        have hmem : t ∈ Tryz.f7.params.toList := List.mem_of_getElem? (i := j) (by simpa using ht)
        have hm : t ∈ [3, 30, 31, 73] := by simpa using List.all_eq_true.1 hpar t hmem
        have hall : ([3, 30, 31, 73].all fun u => !Tryz.prog.wantsStandIn u) = true := by as_aux_lemma => kernel_rfl
        exact (show Tryz.prog.wantsStandIn t = false by simpa using List.all_eq_true.1 hall t hm)⟩)
    (by as_aux_lemma => kernel_rfl)
end Go.Proofs.YtelbgkknneljeaaGreatDoor
