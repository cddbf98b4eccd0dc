import Derived.Test.YtelbgkknneljeaaGreatDoorGcPRpfChainsA
set_option linter.unusedVariables false
set_option linter.unusedSimpArgs false
namespace Go.Proofs.YtelbgkknneljeaaGreatDoor
open Go.RowKit VL
theorem rpfChains_named : Tryz.prog.funcNamed Rows.rpfChainsRow.func = some 6 := by kernel_rfl
theorem rpfChains_wf : Rows.rpfChainsRow.wf (OpenSpec.ofChange Rows.rpfChainsSpec) = true := by kernel_rfl
theorem rpfChains_tie : namedTie Tryz.prog Rows.rpfChainsRow.named Rows.rpfChainsSpec.vars = true := by kernel_rfl
theorem rpfChains_inPlace : (Rows.rpfChainsRow.inPlace == Tryz.prog.inPlace 6) = true := by kernel_rfl
theorem rpfChains_unfollowed : (Rows.rpfChainsRow.unfollowed == Tryz.prog.unfollowed 6) = true := by kernel_rfl
theorem rpfChains_recurses : (Rows.rpfChainsRow.recurses == Tryz.prog.recurses 6) = true := by kernel_rfl
theorem rpfChains_varsNamed : (Rows.rpfChainsRow.named == Tryz.prog.varsNamed 6) = true := by kernel_rfl
theorem rpfChains_lifts : (Rows.rpfChainsRow.lifted == Tryz.prog.liftsFinal) = true := by kernel_rfl
theorem rpfChains_make : (Tryz.prog.make == some Rows.rpfChainsRow.make) = true := by kernel_rfl
theorem rpfChains_joined : joinedFacts Tryz.prog 6 Tryz.f6 Rows.rpfChainsSpec Rows.rpfChainsRow = true :=
  joined_mk rpfChains_wf fact_out fact_rowed (by as_aux_lemma => kernel_rfl) rpfChains_tie rfl fact_stops rfl fact_knobs rpfChains_inPlace rpfChains_unfollowed rpfChains_recurses rpfChains_varsNamed
    (by as_aux_lemma => kernel_rfl) (by as_aux_lemma => kernel_rfl) (by as_aux_lemma => kernel_rfl) (by as_aux_lemma => kernel_rfl) (by as_aux_lemma => kernel_rfl)
    (by as_aux_lemma => kernel_rfl) (by as_aux_lemma => kernel_rfl) (by as_aux_lemma => kernel_rfl) (by as_aux_lemma => kernel_rfl) (by as_aux_lemma => kernel_rfl) rfl
    fact_heard fact_enter rpfChains_lifts rpfChains_make (by as_aux_lemma => kernel_rfl) (by as_aux_lemma => kernel_rfl) (by as_aux_lemma => kernel_rfl) (by as_aux_lemma => kernel_rfl)
theorem rpfChains_row_holds : Rows.RpfChainsSaid :=
  OpenClaim.holds_of_wide 6 Tryz.f6 rfl rfl rfl rfl rfl rfl rfl ⟨rfl, rfl, rfl, rfl, rfl⟩ rfl rfl rfl rfl rfl rpfChains_named Tryz.func6 rpfChains_joined
    (of_decide_eq_true (by as_aux_lemma => kernel_rfl)) (by unfold Func.isWrapper; first | (rw [if_pos (by as_aux_lemma => decide +kernel)]; as_aux_lemma => kernel_rfl) | (rw [if_neg (by as_aux_lemma => decide +kernel)]; exact ⟨rfl, rfl⟩))
    (fun os started H enc _ => rpfChains_lifted os started H enc)
theorem rpfChains_holds : Rows.RpfChainsCardSaid :=
  Claim7.holds_tied_plain_at .later [] [.sentinel, .sentinel, .sentinel, .sentinel, .sentinel, .sentinel, .sentinel] true (true, "e5170db7ce12b4a8f4a60398c10b1e461cfb632e792fbc5b71d448cfd13463d4") false
    rpfChains_row_holds (fun _ h => by cases h) (by as_aux_lemma => kernel_rfl) (fun _ h => by cases h) rpfChains_row_tie rfl ⟨rfl, rfl⟩ (by as_aux_lemma => kernel_rfl) rfl
    (fun f fn hf hfn => by
      obtain rfl : f = 6 := Option.some.inj (rpfChains_named.symm.trans hf) |>.symm
      obtain rfl : fn = Tryz.f6 := (Option.some.inj (Tryz.func6.symm.trans hfn)).symm
      exact ⟨by as_aux_lemma => kernel_rfl, fun j t ht => by
        have hpar : Tryz.f6.params.toList.all (fun u => [3, 30, 42].contains u) = true := by as_aux_lemma => kernel_rfl
        have hmem : t ∈ Tryz.f6.params.toList := List.mem_of_getElem? (i := j) (by simpa using ht)
        have hm : t ∈ [3, 30, 42] := by simpa using List.all_eq_true.1 hpar t hmem
        have hall : ([3, 30, 42].all fun u => !Tryz.prog.wantsStandIn u) = true := by as_aux_lemma => kernel_rfl
        exact (show Tryz.prog.wantsStandIn t = false by simpa using List.all_eq_true.1 hall t hm)⟩)
    (by as_aux_lemma => kernel_rfl)
end Go.Proofs.YtelbgkknneljeaaGreatDoor
