/- rivulet/rivuletlaw1.AddrBytes: the statement, a tied card: what its row lists is tied to the program's text (given). -/
import Derived.Test.YtodnphnbnneegaaDoorAddrBytes
import Derived.Test.YtodnphnbnneegaaDoorPAddr0
import Derived.Test.YtodnphnbnneegaaDoorPBaseD
set_option linter.unusedVariables false
namespace Go.Proofs.YtodnphnbnneegaaDoor
open Go.RowKit VL

theorem addrBytes_law : lawOf Tryd.prog Tryd.f3 8 = (true, some [([.int .u32], false), ([.int .u32], false), ([.int .i64], false), ([.int .u8], false)], true) := by kernel_rfl

theorem addrBytes_met (os : Os) (args : Array Value) : laidMetH Tryd.prog Rows.addrBytesRow.laid ((World.doorLaid Tryd.prog 338 os).forCall (fun _ _ => 0) ⟨#[], args, []⟩).memory :=
  laidMetH_of_parts3 (fuel := 8) (laidMet_of_run' 8 (by kernel_rfl) (by kernel_rfl)) (by kernel_rfl) (by kernel_rfl)

set_option maxRecDepth 100000 in
theorem addrBytes_lifted (os : Os) (started : os.Started) (H : Type) (enc : TypeId × Value → H) :
    ReturnsInHanded {} Tryd.checked os 3 .any (fun w args => (Rows.addrBytesSpec.pre enc Tryd.prog Tryd.f3 Rows.addrBytesRow.domain false w args ∧ laidMetH Tryd.prog Rows.addrBytesRow.laid w) ∧ sizedMet enc Tryd.prog Tryd.f3 (OpenSpec.ofChange Rows.addrBytesSpec) false w args)
      (Rows.addrBytesSpec.post enc Tryd.prog Tryd.f3 false true false false) := by
  refine returns_laid (C := Tryd.checked) (X := fun w _ => laidMetH Tryd.prog Rows.addrBytesRow.laid w) (fun _ _ _ hh h => h.of_heap hh) ownK started (by kernel_rfl) Tryd.func3
    (ChangeSpec.witness_shaped (enc := enc) (C := Tryd.checked) (os := os) (X := fun w _ => laidMetH Tryd.prog Rows.addrBytesRow.laid w) false (World.doorLaid Tryd.prog 338 os) #[.int .u32 0, .int .u32 0, .int .i64 0, .int .u8 0] 8 rfl (World.shaped_of_RefB (by kernel_rfl) (by kernel_rfl)) (by kernel_rfl) (by kernel_rfl) (by kernel_rfl) (addrBytes_met os _)) ?_
  intro W base args ds gs before hval hW _ _ hL0 hS _
  have hL := hL0
  rw [MakeChecks.laidMetH_plain _ _ _ (by kernel_rfl)] at hL
  refine law_calls addrBytes_law rfl (fun ds h => ?_) hval hW (.none rfl) (gok_of hL hS) fun xs hx => ?_
  · match ds, h with
    | [d0, d1, d2, d3], _ => rfl
  · simp only [ArgsFit] at hx
    obtain ⟨c1, _, rfl, h1, c2, _, rfl, h2, c3, _, rfl, h3, c4, _, rfl, h4, rfl⟩ := hx
    obtain ⟨a, ha, e1⟩ := fit_u32 h1
    obtain ⟨b, hb, e2⟩ := fit_u32 h2
    obtain ⟨c, _, e3⟩ := fit_int h3
    obtain ⟨d, hd, e4⟩ := fit_u8 h4
    rw [e1, e2, e3, e4]
    exact AC_AddrBytes a b c d ha hb hd

theorem addrBytes_row_holds : Rows.AddrBytesSaid :=
  OpenClaim.holds_of_wide 3 Tryd.f3 rfl rfl rfl rfl rfl rfl rfl ⟨rfl, rfl, rfl, rfl, rfl⟩ rfl rfl rfl rfl rfl (by kernel_rfl) Tryd.func3 (by kernel_rfl)
    (of_decide_eq_true (by kernel_rfl)) (by unfold Func.isWrapper; first | (rw [if_pos (by decide +kernel)]; kernel_rfl) | (rw [if_neg (by decide +kernel)]; exact ⟨rfl, rfl⟩))
    (fun os started H enc _ => addrBytes_lifted os started H enc)

theorem addrBytes_holds : Rows.AddrBytesCardSaid :=
  Claim7.holds_tied_plain_at .later [] [.data, .data, .data] true (true, "51524590b1e05bbf32c980cfee5db5dd4f5c53a08aa718ad07c1da4d28378747") true
    addrBytes_row_holds (fun _ h => by cases h) (by kernel_rfl) (fun _ h => by cases h) addrBytes_row_tie rfl ⟨rfl, rfl⟩ (by kernel_rfl) rfl
    (fun f fn hf hfn => by
      obtain rfl : f = 3 := Option.some.inj ((show Tryd.prog.funcNamed Rows.addrBytesRow.func = some 3 by kernel_rfl).symm.trans hf) |>.symm
      obtain rfl : fn = Tryd.f3 := (Option.some.inj (Tryd.func3.symm.trans hfn)).symm
      exact ⟨by kernel_rfl, fun j t ht => by
        have hpar : Tryd.f3.params.toList.all (fun u => [3, 5, 23].contains u) = true := by kernel_rfl
        have hmem : t ∈ Tryd.f3.params.toList := List.mem_of_getElem? (i := j) (by simpa using ht)
        have hm : t ∈ [3, 5, 23] := by simpa using List.all_eq_true.1 hpar t hmem
        have hall : ([3, 5, 23].all fun u => !Tryd.prog.wantsStandIn u) = true := by kernel_rfl
        exact (show Tryd.prog.wantsStandIn t = false by simpa using List.all_eq_true.1 hall t hm)⟩)
    (by kernel_rfl)

end Go.Proofs.YtodnphnbnneegaaDoor
