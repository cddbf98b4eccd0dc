/- rivulet/rivuletlaw5.LexRows: the statement, a tied card: what its row lists is tied to the program's text (given). -/
import Derived.Test.YtodnphnbnneegaaDoorLexRows
import Derived.Test.YtodnphnbnneegaaDoorPAddr0
import Derived.Test.YtodnphnbnneegaaDoorPSent
import Derived.Test.YtodnphnbnneegaaDoorPFit
import Derived.Test.YtodnphnbnneegaaDoorPBaseD
import Derived.Lay
set_option linter.unusedVariables false
namespace Go.Proofs.YtodnphnbnneegaaDoor
open Go.RowKit VL

theorem lexRows_law : lawOf Tryd.prog Tryd.f7 8 = (true, some [([.sl false [.int .i64]], false), ([.int .i64], false)], true) := by kernel_rfl

theorem lexRows_met (os : Os) (args : Array Value) : laidMetH Tryd.prog Rows.lexRowsRow.laid ((World.laidAll Tryd.prog os Rows.lexRowsRow.laid).forCall (fun _ _ => 0) ⟨#[], args, []⟩).memory :=
  by
  rw [MakeChecks.laidMetH_plain _ _ _ (by kernel_rfl)]
  exact laidMet_laidAll _ (by kernel_rfl) (by kernel_rfl)

set_option maxRecDepth 100000 in
theorem lexRows_lifted (os : Os) (started : os.Started) (H : Type) (enc : TypeId × Value → H) :
    ReturnsInHanded {} Tryd.checked os 7 .any (fun w args => (Rows.lexRowsSpec.pre enc Tryd.prog Tryd.f7 Rows.lexRowsRow.domain false w args ∧ laidMetH Tryd.prog Rows.lexRowsRow.laid w) ∧ sizedMet enc Tryd.prog Tryd.f7 (OpenSpec.ofChange Rows.lexRowsSpec) false w args)
      (Rows.lexRowsSpec.post enc Tryd.prog Tryd.f7 false true false false) := by
  refine returns_laid (C := Tryd.checked) (X := fun w _ => laidMetH Tryd.prog Rows.lexRowsRow.laid w) (fun _ _ _ hh h => h.of_heap hh) ownK started (by kernel_rfl) Tryd.func7
    (ChangeSpec.witness_shaped (enc := enc) (C := Tryd.checked) (os := os) (X := fun w _ => laidMetH Tryd.prog Rows.lexRowsRow.laid w) false (World.laidAll Tryd.prog os Rows.lexRowsRow.laid) #[.slice none 0 0, .int .i64 0] 8 (World.laidAll_os _ _ _) (World.shaped_of_ZipB (by kernel_rfl) (by kernel_rfl)) (by kernel_rfl) (by kernel_rfl) (by kernel_rfl) (lexRows_met os _)) ?_
  intro W base args ds gs before hval hW _ _ hL0 hS _
  have hL := hL0
  rw [MakeChecks.laidMetH_plain _ _ _ (by kernel_rfl)] at hL
  refine law_calls lexRows_law rfl (fun ds h => ?_) hval hW (sentAt_of hL (by kernel_rfl)) (gok_of hL hS) fun xs hx => ?_
  · match ds, h with
    | [d0, d1], _ => rfl
  · simp only [ArgsFit] at hx
    obtain ⟨c1, _, rfl, h1, c2, _, rfl, h2, rfl⟩ := hx
    obtain ⟨l, hm, e1⟩ := fit_slice avI64 (fun _ h => by obtain ⟨x, _, e⟩ := fit_int h; exact ⟨x, e⟩) h1
    obtain ⟨b, _, e2⟩ := fit_int h2
    rw [e1, e2]
    exact AC_LexRows l b

theorem lexRows_row_holds : Rows.LexRowsSaid :=
  OpenClaim.holds_of_wide 7 Tryd.f7 rfl rfl rfl rfl rfl rfl rfl ⟨rfl, rfl, rfl, rfl, rfl⟩ rfl rfl rfl rfl rfl (by kernel_rfl) Tryd.func7 (by kernel_rfl)
    (of_decide_eq_true (by kernel_rfl)) (by unfold Func.isWrapper; first | (rw [if_pos (by decide +kernel)]; kernel_rfl) | (rw [if_neg (by decide +kernel)]; exact ⟨rfl, rfl⟩))
    (fun os started H enc _ => lexRows_lifted os started H enc)

theorem lexRows_holds : Rows.LexRowsCardSaid :=
  Claim7.holds_tied_plain_at .later [] [.data, .data, .data, .data, .sentinel, .pinned] true (true, "51524590b1e05bbf32c980cfee5db5dd4f5c53a08aa718ad07c1da4d28378747") true
    lexRows_row_holds (fun _ h => by cases h) (by kernel_rfl) (fun _ h => by cases h) lexRows_row_tie rfl ⟨rfl, rfl⟩ (by kernel_rfl) rfl
    (fun f fn hf hfn => by
      obtain rfl : f = 7 := Option.some.inj ((show Tryd.prog.funcNamed Rows.lexRowsRow.func = some 7 by kernel_rfl).symm.trans hf) |>.symm
      obtain rfl : fn = Tryd.f7 := (Option.some.inj (Tryd.func7.symm.trans hfn)).symm
      exact ⟨by kernel_rfl, fun j t ht => by
        have hpar : Tryd.f7.params.toList.all (fun u => [3, 50].contains u) = true := by kernel_rfl
        have hmem : t ∈ Tryd.f7.params.toList := List.mem_of_getElem? (i := j) (by simpa using ht)
        have hm : t ∈ [3, 50] := by simpa using List.all_eq_true.1 hpar t hmem
        have hall : ([3, 50].all fun u => !Tryd.prog.wantsStandIn u) = true := by kernel_rfl
        exact (show Tryd.prog.wantsStandIn t = false by simpa using List.all_eq_true.1 hall t hm)⟩)
    (by kernel_rfl)

end Go.Proofs.YtodnphnbnneegaaDoor
