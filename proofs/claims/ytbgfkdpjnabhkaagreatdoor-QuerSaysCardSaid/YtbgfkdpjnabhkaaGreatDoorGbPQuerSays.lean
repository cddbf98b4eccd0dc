import Derived.Test.YtbgfkdpjnabhkaaGreatDoorGbPQuerSaysA
set_option linter.unusedVariables false
set_option linter.unusedSimpArgs false
namespace Go.Proofs.YtbgfkdpjnabhkaaGreatDoor
open Go.RowKit VL
theorem querSays_named : Tryz.prog.funcNamed Rows.querSaysRow.func = some 9 := by kernel_rfl
theorem querSays_wf : Rows.querSaysRow.wf (OpenSpec.ofChange Rows.querSaysSpec) = true := by kernel_rfl
theorem querSays_tie : namedTie Tryz.prog Rows.querSaysRow.named Rows.querSaysSpec.vars = true := by kernel_rfl
theorem querSays_inPlace : (Rows.querSaysRow.inPlace == Tryz.prog.inPlace 9) = true := by kernel_rfl
theorem querSays_unfollowed : (Rows.querSaysRow.unfollowed == Tryz.prog.unfollowed 9) = true := by kernel_rfl
theorem querSays_recurses : (Rows.querSaysRow.recurses == Tryz.prog.recurses 9) = true := by kernel_rfl
theorem querSays_varsNamed : (Rows.querSaysRow.named == Tryz.prog.varsNamed 9) = true := by kernel_rfl
theorem querSays_lifts : (Rows.querSaysRow.lifted == Tryz.prog.liftsFinal) = true := by kernel_rfl
theorem querSays_make : (Tryz.prog.make == some Rows.querSaysRow.make) = true := by kernel_rfl
theorem querSays_joined : joinedFacts Tryz.prog 9 Tryz.f9 Rows.querSaysSpec Rows.querSaysRow = true :=
  joined_mk querSays_wf fact_out fact_rowed (by as_aux_lemma => kernel_rfl) querSays_tie rfl fact_stops rfl fact_knobs querSays_inPlace querSays_unfollowed querSays_recurses querSays_varsNamed
    (by as_aux_lemma => kernel_rfl) (by as_aux_lemma => kernel_rfl) (by as_aux_lemma => kernel_rfl) (by as_aux_lemma => kernel_rfl) (by as_aux_lemma => kernel_rfl)
    (by as_aux_lemma => kernel_rfl) (by as_aux_lemma => kernel_rfl) (by as_aux_lemma => kernel_rfl) (by as_aux_lemma => kernel_rfl) (by as_aux_lemma => kernel_rfl) rfl
    fact_heard fact_enter querSays_lifts querSays_make (by as_aux_lemma => kernel_rfl) (by as_aux_lemma => kernel_rfl) (by as_aux_lemma => kernel_rfl) (by as_aux_lemma => kernel_rfl)
theorem querSays_row_holds : Rows.QuerSaysSaid :=
  OpenClaim.holds_of_wide 9 Tryz.f9 rfl rfl rfl rfl rfl rfl rfl ⟨rfl, rfl, rfl, rfl, rfl⟩ rfl rfl rfl rfl rfl querSays_named Tryz.func9 querSays_joined
    (of_decide_eq_true (by as_aux_lemma => kernel_rfl)) (by unfold Func.isWrapper; first | (rw [if_pos (by as_aux_lemma => decide +kernel)]; as_aux_lemma => kernel_rfl) | (rw [if_neg (by as_aux_lemma => decide +kernel)]; exact ⟨rfl, rfl⟩))
    (fun os started H enc _ => querSays_lifted os started H enc)
theorem querSays_holds : Rows.QuerSaysCardSaid :=
  Claim7.holds_tied_plain_at .later [] [.sentinel, .sentinel, .sentinel, .sentinel, .sentinel, .sentinel, .sentinel] true (true, "288713d75d79cba3218353d37c123daa7e8f45ef5fcc29f3e0fed0295cf70ad6") true
    querSays_row_holds (fun _ h => by cases h) (by as_aux_lemma => kernel_rfl) (fun _ h => by cases h) querSays_row_tie rfl ⟨rfl, rfl⟩ (by as_aux_lemma => kernel_rfl) rfl
    (fun f fn hf hfn => by
      obtain rfl : f = 9 := Option.some.inj (querSays_named.symm.trans hf) |>.symm
      obtain rfl : fn = Tryz.f9 := (Option.some.inj (Tryz.func9.symm.trans hfn)).symm
      exact ⟨by as_aux_lemma => kernel_rfl, fun j t ht => by
        have hpar : Tryz.f9.params.toList.all (fun u => [3, 30, 32, 82, 89].contains u) = true := by as_aux_lemma => kernel_rfl
        have hmem : t ∈ Tryz.f9.params.toList := List.mem_of_getElem? (i := j) (by simpa using ht)
        have hm : t ∈ [3, 30, 32, 82, 89] := by simpa using List.all_eq_true.1 hpar t hmem
        have hall : ([3, 30, 32, 82, 89].all fun u => !Tryz.prog.wantsStandIn u) = true := by as_aux_lemma => kernel_rfl
        exact (show Tryz.prog.wantsStandIn t = false by simpa using List.all_eq_true.1 hall t hm)⟩)
    (by as_aux_lemma => kernel_rfl)
end Go.Proofs.YtbgfkdpjnabhkaaGreatDoor
