import Derived.Test.YtjceingdmfogeaaDoorGbPSeatRanksA
set_option linter.unusedVariables false
set_option linter.unusedSimpArgs false
namespace Go.Proofs.YtjceingdmfogeaaDoor
open Go.RowKit VL
theorem seatRanks_named : Tryd.prog.funcNamed Rows.seatRanksRow.func = some 3 := by kernel_rfl
theorem seatRanks_wf : Rows.seatRanksRow.wf (OpenSpec.ofChange Rows.seatRanksSpec) = true := by kernel_rfl
theorem seatRanks_tie : namedTie Tryd.prog Rows.seatRanksRow.named Rows.seatRanksSpec.vars = true := by kernel_rfl
theorem seatRanks_inPlace : (Rows.seatRanksRow.inPlace == Tryd.prog.inPlace 3) = true := by kernel_rfl
theorem seatRanks_unfollowed : (Rows.seatRanksRow.unfollowed == Tryd.prog.unfollowed 3) = true := by kernel_rfl
theorem seatRanks_recurses : (Rows.seatRanksRow.recurses == Tryd.prog.recurses 3) = true := by kernel_rfl
theorem seatRanks_varsNamed : (Rows.seatRanksRow.named == Tryd.prog.varsNamed 3) = true := by kernel_rfl
theorem seatRanks_lifts : (Rows.seatRanksRow.lifted == Tryd.prog.liftsFinal) = true := by kernel_rfl
theorem seatRanks_make : (Tryd.prog.make == some Rows.seatRanksRow.make) = true := by kernel_rfl
theorem seatRanks_joined : joinedFacts Tryd.prog 3 Tryd.f3 Rows.seatRanksSpec Rows.seatRanksRow = true :=
  joined_mk seatRanks_wf fact_out fact_rowed (by as_aux_lemma => kernel_rfl) seatRanks_tie rfl fact_stops rfl fact_knobs seatRanks_inPlace seatRanks_unfollowed seatRanks_recurses seatRanks_varsNamed
    (by as_aux_lemma => kernel_rfl) (by as_aux_lemma => kernel_rfl) (by as_aux_lemma => kernel_rfl) (by as_aux_lemma => kernel_rfl) (by as_aux_lemma => kernel_rfl)
    (by as_aux_lemma => kernel_rfl) (by as_aux_lemma => kernel_rfl) (by as_aux_lemma => kernel_rfl) (by as_aux_lemma => kernel_rfl) (by as_aux_lemma => kernel_rfl) rfl
    fact_heard fact_enter seatRanks_lifts seatRanks_make (by as_aux_lemma => kernel_rfl) (by as_aux_lemma => kernel_rfl) (by as_aux_lemma => kernel_rfl) (by as_aux_lemma => kernel_rfl)
theorem seatRanks_row_holds : Rows.SeatRanksSaid :=
  OpenClaim.holds_of_wide 3 Tryd.f3 rfl rfl rfl rfl rfl rfl rfl ⟨rfl, rfl, rfl, rfl, rfl⟩ rfl rfl rfl rfl rfl seatRanks_named Tryd.func3 seatRanks_joined
    (of_decide_eq_true (by as_aux_lemma => kernel_rfl)) (by unfold Func.isWrapper; first | (rw [if_pos (by as_aux_lemma => decide +kernel)]; as_aux_lemma => kernel_rfl) | (rw [if_neg (by as_aux_lemma => decide +kernel)]; exact ⟨rfl, rfl⟩))
    (fun os started H enc _ => seatRanks_lifted os started H enc)
theorem seatRanks_holds : Rows.SeatRanksCardSaid :=
  Claim7.holds_tied_plain_at .later [] [.sentinel, .sentinel, .sentinel, .sentinel, .sentinel, .sentinel, .sentinel] true (true, "8d9ddd940d4b1a4ef888d1fa30e514bf5d37f6146e4549fb7c9ec065c9860c75") false
    seatRanks_row_holds (fun _ h => by cases h) (by as_aux_lemma => kernel_rfl) (fun _ h => by cases h) seatRanks_row_tie rfl ⟨rfl, rfl⟩ (by as_aux_lemma => kernel_rfl) rfl
    (fun f fn hf hfn => by
      obtain rfl : f = 3 := Option.some.inj (seatRanks_named.symm.trans hf) |>.symm
      obtain rfl : fn = Tryd.f3 := (Option.some.inj (Tryd.func3.symm.trans hfn)).symm
      exact ⟨by as_aux_lemma => kernel_rfl, fun j t ht => by
        have hpar : Tryd.f3.params.toList.all (fun u => [22].contains u) = true := by as_aux_lemma => kernel_rfl
        have hmem : t ∈ Tryd.f3.params.toList := List.mem_of_getElem? (i := j) (by simpa using ht)
        have hm : t ∈ [22] := by simpa using List.all_eq_true.1 hpar t hmem
        have hall : ([22].all fun u => !Tryd.prog.wantsStandIn u) = true := by as_aux_lemma => kernel_rfl
        exact (show Tryd.prog.wantsStandIn t = false by simpa using List.all_eq_true.1 hall t hm)⟩)
    (by as_aux_lemma => kernel_rfl)
end Go.Proofs.YtjceingdmfogeaaDoor
