/- rivulet/rivuletlaw5.LexSays: the statement, a tied card: what its row lists is tied to the program's text (given). -/
import Derived.Test.YtodnphnbnneegaaDoorLexSays
import Derived.Test.YtodnphnbnneegaaDoorPAddr0
import Derived.Test.YtodnphnbnneegaaDoorPSent
import Derived.Test.YtodnphnbnneegaaDoorPFit
import Derived.Test.YtodnphnbnneegaaDoorPBaseD
import Derived.Lay
set_option linter.unusedVariables false
namespace Go.Proofs.YtodnphnbnneegaaDoor
open Go.RowKit VL

theorem lexSays_law : lawOf Tryd.prog Tryd.f9 8 = (true, some [([.str], false), ([.str], false), ([.int .i64], false)], true) := by kernel_rfl

theorem lexSays_met (os : Os) (args : Array Value) : laidMetH Tryd.prog Rows.lexSaysRow.laid ((World.laidAll Tryd.prog os Rows.lexSaysRow.laid).forCall (fun _ _ => 0) ⟨#[], args, []⟩).memory :=
  by
  rw [MakeChecks.laidMetH_plain _ _ _ (by kernel_rfl)]
  exact laidMet_laidAll _ (by kernel_rfl) (by kernel_rfl)

set_option maxRecDepth 100000 in
theorem lexSays_lifted (os : Os) (started : os.Started) (H : Type) (enc : TypeId × Value → H) :
    ReturnsInHanded {} Tryd.checked os 9 .any (fun w args => (Rows.lexSaysSpec.pre enc Tryd.prog Tryd.f9 Rows.lexSaysRow.domain false w args ∧ laidMetH Tryd.prog Rows.lexSaysRow.laid w) ∧ sizedMet enc Tryd.prog Tryd.f9 (OpenSpec.ofChange Rows.lexSaysSpec) false w args)
      (Rows.lexSaysSpec.post enc Tryd.prog Tryd.f9 false true false false) := by
  refine returns_laid (C := Tryd.checked) (X := fun w _ => laidMetH Tryd.prog Rows.lexSaysRow.laid w) (fun _ _ _ hh h => h.of_heap hh) ownK started (by kernel_rfl) Tryd.func9
    (ChangeSpec.witness_shaped (enc := enc) (C := Tryd.checked) (os := os) (X := fun w _ => laidMetH Tryd.prog Rows.lexSaysRow.laid w) false (World.laidAll Tryd.prog os Rows.lexSaysRow.laid) #[.string ⟨#[]⟩, .string ⟨#[]⟩, .int .i64 0] 8 (World.laidAll_os _ _ _) (World.shaped_of_ZipB (by kernel_rfl) (by kernel_rfl)) (by kernel_rfl) (by kernel_rfl) (by kernel_rfl) (lexSays_met os _)) ?_
  intro W base args ds gs before hval hW _ _ hL0 hS _
  have hL := hL0
  rw [MakeChecks.laidMetH_plain _ _ _ (by kernel_rfl)] at hL
  refine law_calls lexSays_law rfl (fun ds h => ?_) hval hW (sentAt_of hL (by kernel_rfl)) (gok_of hL hS) fun xs hx => ?_
  · match ds, h with
    | [d0, d1, d2], _ => rfl
  · simp only [ArgsFit] at hx
    obtain ⟨c1, _, rfl, h1, c2, _, rfl, h2, c3, _, rfl, h3, rfl⟩ := hx
    obtain ⟨s, _, e1⟩ := fit_str h1
    obtain ⟨w, _, e2⟩ := fit_str h2
    obtain ⟨n, _, e3⟩ := fit_int h3
    rw [e1, e2, e3]
    exact AC_LexSays s w n

theorem lexSays_row_holds : Rows.LexSaysSaid :=
  OpenClaim.holds_of_wide 9 Tryd.f9 rfl rfl rfl rfl rfl rfl rfl ⟨rfl, rfl, rfl, rfl, rfl⟩ rfl rfl rfl rfl rfl (by kernel_rfl) Tryd.func9 (by kernel_rfl)
    (of_decide_eq_true (by kernel_rfl)) (by unfold Func.isWrapper; first | (rw [if_pos (by decide +kernel)]; kernel_rfl) | (rw [if_neg (by decide +kernel)]; exact ⟨rfl, rfl⟩))
    (fun os started H enc _ => lexSays_lifted os started H enc)

theorem lexSays_holds : Rows.LexSaysCardSaid :=
  Claim7.holds_tied_plain_at .later [] [.data, .data, .data, .data, .sentinel, .sentinel, .sentinel, .sentinel, .sentinel, .sentinel, .sentinel, .sentinel, .sentinel, .sentinel, .sentinel, .sentinel, .sentinel, .sentinel, .sentinel, .sentinel, .pinned] true (true, "51524590b1e05bbf32c980cfee5db5dd4f5c53a08aa718ad07c1da4d28378747") true
    lexSays_row_holds (fun _ h => by cases h) (by kernel_rfl) (fun _ h => by cases h) lexSays_row_tie rfl ⟨rfl, rfl⟩ (by kernel_rfl) rfl
    (fun f fn hf hfn => by
      obtain rfl : f = 9 := Option.some.inj ((show Tryd.prog.funcNamed Rows.lexSaysRow.func = some 9 by kernel_rfl).symm.trans hf) |>.symm
      obtain rfl : fn = Tryd.f9 := (Option.some.inj (Tryd.func9.symm.trans hfn)).symm
      exact ⟨by kernel_rfl, fun j t ht => by
        have hpar : Tryd.f9.params.toList.all (fun u => [3, 9].contains u) = true := by kernel_rfl
        have hmem : t ∈ Tryd.f9.params.toList := List.mem_of_getElem? (i := j) (by simpa using ht)
        have hm : t ∈ [3, 9] := by simpa using List.all_eq_true.1 hpar t hmem
        have hall : ([3, 9].all fun u => !Tryd.prog.wantsStandIn u) = true := by kernel_rfl
        exact (show Tryd.prog.wantsStandIn t = false by simpa using List.all_eq_true.1 hall t hm)⟩)
    (by kernel_rfl)

end Go.Proofs.YtodnphnbnneegaaDoor
