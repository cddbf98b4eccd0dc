import Derived.Test.YtelbgkknneljeaaGreatDoorGaPRibSaysA
set_option linter.unusedVariables false
set_option linter.unusedSimpArgs false
namespace Go.Proofs.YtelbgkknneljeaaGreatDoor
open Go.RowKit VL
theorem ribSays_named : Tryz.prog.funcNamed Rows.ribSaysRow.func = some 3 := by kernel_rfl
theorem ribSays_wf : Rows.ribSaysRow.wf (OpenSpec.ofChange Rows.ribSaysSpec) = true := by kernel_rfl
theorem ribSays_tie : namedTie Tryz.prog Rows.ribSaysRow.named Rows.ribSaysSpec.vars = true := by kernel_rfl
theorem ribSays_inPlace : (Rows.ribSaysRow.inPlace == Tryz.prog.inPlace 3) = true := by kernel_rfl
theorem ribSays_unfollowed : (Rows.ribSaysRow.unfollowed == Tryz.prog.unfollowed 3) = true := by kernel_rfl
theorem ribSays_recurses : (Rows.ribSaysRow.recurses == Tryz.prog.recurses 3) = true := by kernel_rfl
theorem ribSays_varsNamed : (Rows.ribSaysRow.named == Tryz.prog.varsNamed 3) = true := by kernel_rfl
theorem ribSays_lifts : (Rows.ribSaysRow.lifted == Tryz.prog.liftsFinal) = true := by kernel_rfl
theorem ribSays_make : (Tryz.prog.make == some Rows.ribSaysRow.make) = true := by kernel_rfl
theorem ribSays_joined : joinedFacts Tryz.prog 3 Tryz.f3 Rows.ribSaysSpec Rows.ribSaysRow = true :=
  joined_mk ribSays_wf fact_out fact_rowed (by as_aux_lemma => kernel_rfl) ribSays_tie rfl fact_stops rfl fact_knobs ribSays_inPlace ribSays_unfollowed ribSays_recurses ribSays_varsNamed
    (by as_aux_lemma => kernel_rfl) (by as_aux_lemma => kernel_rfl) (by as_aux_lemma => kernel_rfl) (by as_aux_lemma => kernel_rfl) (by as_aux_lemma => kernel_rfl)
    (by as_aux_lemma => kernel_rfl) (by as_aux_lemma => kernel_rfl) (by as_aux_lemma => kernel_rfl) (by as_aux_lemma => kernel_rfl) (by as_aux_lemma => kernel_rfl) rfl
    fact_heard fact_enter ribSays_lifts ribSays_make (by as_aux_lemma => kernel_rfl) (by as_aux_lemma => kernel_rfl) (by as_aux_lemma => kernel_rfl) (by as_aux_lemma => kernel_rfl)
theorem ribSays_row_holds : Rows.RibSaysSaid :=
  OpenClaim.holds_of_wide 3 Tryz.f3 rfl rfl rfl rfl rfl rfl rfl ⟨rfl, rfl, rfl, rfl, rfl⟩ rfl rfl rfl rfl rfl ribSays_named Tryz.func3 ribSays_joined
    (of_decide_eq_true (by as_aux_lemma => kernel_rfl)) (by unfold Func.isWrapper; first | (rw [if_pos (by as_aux_lemma => decide +kernel)]; as_aux_lemma => kernel_rfl) | (rw [if_neg (by as_aux_lemma => decide +kernel)]; exact ⟨rfl, rfl⟩))
    (fun os started H enc _ => ribSays_lifted os started H enc)
theorem ribSays_holds : Rows.RibSaysCardSaid :=
  Claim7.holds_tied_plain_at .later [] [.sentinel, .sentinel, .sentinel, .sentinel, .sentinel, .sentinel, .sentinel] true (true, "e5170db7ce12b4a8f4a60398c10b1e461cfb632e792fbc5b71d448cfd13463d4") false
    ribSays_row_holds (fun _ h => by cases h) (by as_aux_lemma => kernel_rfl) (fun _ h => by cases h) ribSays_row_tie rfl ⟨rfl, rfl⟩ (by as_aux_lemma => kernel_rfl) rfl
    (fun f fn hf hfn => by
      obtain rfl : f = 3 := Option.some.inj (ribSays_named.symm.trans hf) |>.symm
      obtain rfl : fn = Tryz.f3 := (Option.some.inj (Tryz.func3.symm.trans hfn)).symm
      exact ⟨by as_aux_lemma => kernel_rfl, fun j t ht => by
        have hpar : Tryz.f3.params.toList.all (fun u => [3, 30, 31].contains u) = true := by as_aux_lemma => kernel_rfl
        have hmem : t ∈ Tryz.f3.params.toList := List.mem_of_getElem? (i := j) (by simpa using ht)
        have hm : t ∈ [3, 30, 31] := by simpa using List.all_eq_true.1 hpar t hmem
        have hall : ([3, 30, 31].all fun u => !Tryz.prog.wantsStandIn u) = true := by as_aux_lemma => kernel_rfl
        exact (show Tryz.prog.wantsStandIn t = false by simpa using List.all_eq_true.1 hall t hm)⟩)
    (by as_aux_lemma => kernel_rfl)
end Go.Proofs.YtelbgkknneljeaaGreatDoor
