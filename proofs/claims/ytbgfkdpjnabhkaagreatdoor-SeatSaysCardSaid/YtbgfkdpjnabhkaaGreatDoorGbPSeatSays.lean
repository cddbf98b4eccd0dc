import Derived.Test.YtbgfkdpjnabhkaaGreatDoorGbPSeatSaysA
set_option linter.unusedVariables false
set_option linter.unusedSimpArgs false
namespace Go.Proofs.YtbgfkdpjnabhkaaGreatDoor
open Go.RowKit VL
theorem seatSays_named : Tryz.prog.funcNamed Rows.seatSaysRow.func = some 7 := by kernel_rfl
theorem seatSays_wf : Rows.seatSaysRow.wf (OpenSpec.ofChange Rows.seatSaysSpec) = true := by kernel_rfl
theorem seatSays_tie : namedTie Tryz.prog Rows.seatSaysRow.named Rows.seatSaysSpec.vars = true := by kernel_rfl
theorem seatSays_inPlace : (Rows.seatSaysRow.inPlace == Tryz.prog.inPlace 7) = true := by kernel_rfl
theorem seatSays_unfollowed : (Rows.seatSaysRow.unfollowed == Tryz.prog.unfollowed 7) = true := by kernel_rfl
theorem seatSays_recurses : (Rows.seatSaysRow.recurses == Tryz.prog.recurses 7) = true := by kernel_rfl
theorem seatSays_varsNamed : (Rows.seatSaysRow.named == Tryz.prog.varsNamed 7) = true := by kernel_rfl
theorem seatSays_lifts : (Rows.seatSaysRow.lifted == Tryz.prog.liftsFinal) = true := by kernel_rfl
theorem seatSays_make : (Tryz.prog.make == some Rows.seatSaysRow.make) = true := by kernel_rfl
theorem seatSays_joined : joinedFacts Tryz.prog 7 Tryz.f7 Rows.seatSaysSpec Rows.seatSaysRow = true :=
  joined_mk seatSays_wf fact_out fact_rowed (by as_aux_lemma => kernel_rfl) seatSays_tie rfl fact_stops rfl fact_knobs seatSays_inPlace seatSays_unfollowed seatSays_recurses seatSays_varsNamed
    (by as_aux_lemma => kernel_rfl) (by as_aux_lemma => kernel_rfl) (by as_aux_lemma => kernel_rfl) (by as_aux_lemma => kernel_rfl) (by as_aux_lemma => kernel_rfl)
    (by as_aux_lemma => kernel_rfl) (by as_aux_lemma => kernel_rfl) (by as_aux_lemma => kernel_rfl) (by as_aux_lemma => kernel_rfl) (by as_aux_lemma => kernel_rfl) rfl
    fact_heard fact_enter seatSays_lifts seatSays_make (by as_aux_lemma => kernel_rfl) (by as_aux_lemma => kernel_rfl) (by as_aux_lemma => kernel_rfl) (by as_aux_lemma => kernel_rfl)
theorem seatSays_row_holds : Rows.SeatSaysSaid :=
  OpenClaim.holds_of_wide 7 Tryz.f7 rfl rfl rfl rfl rfl rfl rfl ⟨rfl, rfl, rfl, rfl, rfl⟩ rfl rfl rfl rfl rfl seatSays_named Tryz.func7 seatSays_joined
    (of_decide_eq_true (by as_aux_lemma => kernel_rfl)) (by unfold Func.isWrapper; first | (rw [if_pos (by as_aux_lemma => decide +kernel)]; as_aux_lemma => kernel_rfl) | (rw [if_neg (by as_aux_lemma => decide +kernel)]; exact ⟨rfl, rfl⟩))
    (fun os started H enc _ => seatSays_lifted os started H enc)
theorem seatSays_holds : Rows.SeatSaysCardSaid :=
  Claim7.holds_tied_plain_at .later [] [.sentinel, .sentinel, .sentinel, .sentinel, .sentinel, .sentinel, .sentinel] true (true, "288713d75d79cba3218353d37c123daa7e8f45ef5fcc29f3e0fed0295cf70ad6") true
    seatSays_row_holds (fun _ h => by cases h) (by as_aux_lemma => kernel_rfl) (fun _ h => by cases h) seatSays_row_tie rfl ⟨rfl, rfl⟩ (by as_aux_lemma => kernel_rfl) rfl
    (fun f fn hf hfn => by
      obtain rfl : f = 7 := Option.some.inj (seatSays_named.symm.trans hf) |>.symm
      obtain rfl : fn = Tryz.f7 := (Option.some.inj (Tryz.func7.symm.trans hfn)).symm
      exact ⟨by as_aux_lemma => kernel_rfl, fun j t ht => by
        have hpar : Tryz.f7.params.toList.all (fun u => [3, 30, 66].contains u) = true := by as_aux_lemma => kernel_rfl
        have hmem : t ∈ Tryz.f7.params.toList := List.mem_of_getElem? (i := j) (by simpa using ht)
        have hm : t ∈ [3, 30, 66] := by simpa using List.all_eq_true.1 hpar t hmem
        have hall : ([3, 30, 66].all fun u => !Tryz.prog.wantsStandIn u) = true := by as_aux_lemma => kernel_rfl
        exact (show Tryz.prog.wantsStandIn t = false by simpa using List.all_eq_true.1 hall t hm)⟩)
    (by as_aux_lemma => kernel_rfl)
end Go.Proofs.YtbgfkdpjnabhkaaGreatDoor
