/-
  DERIVED. GIVEN WITH THE SEED: THE CARDS: each row of YtobofhbklfallaaGreatDoorRows.lean that lists a variable, with what it lists TIED to the program's text (the seventh form; the later family's looks); each row that meets fmt, with fmt's text TOLD by the authors' own Lean function (tested against real Go, not proved from fmt's source: count such statements apart). THE CARD IS WHAT COUNTS. Prove the row's statement (the work); the ties are given (YtobofhbklfallaaGreatDoorTie.lean); close each card by the builder's one call (the guide's Derived/Test/ToyasCard.lean, 'card_holds'). Laid BY PROGRAM, IN A SANDBOX (cutbox-door.mjs). By AI agents, Wed Nov 11 2026. No macro, syntax, notation, axiom, sorry.
-/
import Derived.Test.YtobofhbklfallaaGreatDoorRows
import GoSem.ClaimSeven
namespace Go.Proofs.YtobofhbklfallaaGreatDoor
namespace Rows

/-- THE TIED CARD OF 'rivuletlaw8.TopoGroups'. -/
def topoGroupsCard : Claim7 := { stood := { row := topoGroupsRow, standIns := [], harness := (true, "e066ce63263c4bd7ab5ef11045a8b857106e767404eef14bbae601ad13bdf727"), looks := true }, kinds := [], alts := [], laidByText := true, laidKinds := [.sentinel, .sentinel, .sentinel, .sentinel, .sentinel, .sentinel, .sentinel], laidTests := true, laidLooks := .later }
def TopoGroupsCardSaid : Prop := Claim7.holds Tryz.pinned (.plain (OpenSpec.ofChange topoGroupsSpec)) topoGroupsCard

/-- THE TIED CARD OF 'rivuletlaw10.RootOne'. -/
def rootOneCard : Claim7 := { stood := { row := rootOneRow, standIns := [], harness := (true, "e066ce63263c4bd7ab5ef11045a8b857106e767404eef14bbae601ad13bdf727"), looks := true }, kinds := [], alts := [], laidByText := true, laidKinds := [.sentinel, .sentinel, .sentinel, .sentinel, .sentinel, .sentinel, .sentinel], laidTests := true, laidLooks := .later }
def RootOneCardSaid : Prop := Claim7.holds Tryz.pinned (.plain (OpenSpec.ofChange rootOneSpec)) rootOneCard

/-- THE TIED CARD OF 'rivuletlaw10.RootSays'. -/
def rootSaysCard : Claim7 := { stood := { row := rootSaysRow, standIns := [], harness := (true, "e066ce63263c4bd7ab5ef11045a8b857106e767404eef14bbae601ad13bdf727"), looks := true }, kinds := [], alts := [], laidByText := true, laidKinds := [.sentinel, .sentinel, .sentinel, .sentinel, .sentinel, .sentinel, .sentinel], laidTests := true, laidLooks := .later }
def RootSaysCardSaid : Prop := Claim7.holds Tryz.pinned (.plain (OpenSpec.ofChange rootSaysSpec)) rootSaysCard

/-- THE TIED CARD OF 'rivuletlaw10.RootRanges'. -/
def rootRangesCard : Claim7 := { stood := { row := rootRangesRow, standIns := [], harness := (true, "e066ce63263c4bd7ab5ef11045a8b857106e767404eef14bbae601ad13bdf727"), looks := true }, kinds := [], alts := [], laidByText := true, laidKinds := [.sentinel, .sentinel, .sentinel, .sentinel, .sentinel, .sentinel, .sentinel], laidTests := true, laidLooks := .later }
def RootRangesCardSaid : Prop := Claim7.holds Tryz.pinned (.plain (OpenSpec.ofChange rootRangesSpec)) rootRangesCard

/-- THE TIED CARD OF 'rivuletlaw10.RootNone'. -/
def rootNoneCard : Claim7 := { stood := { row := rootNoneRow, standIns := [], harness := (true, "e066ce63263c4bd7ab5ef11045a8b857106e767404eef14bbae601ad13bdf727"), looks := true }, kinds := [], alts := [], laidByText := true, laidKinds := [.sentinel, .sentinel, .sentinel, .sentinel, .sentinel, .sentinel, .sentinel], laidTests := true, laidLooks := .later }
def RootNoneCardSaid : Prop := Claim7.holds Tryz.pinned (.plain (OpenSpec.ofChange rootNoneSpec)) rootNoneCard

/-- THE TIED CARD OF 'rivuletlaw8.TopoOthers'. -/
def topoOthersCard : Claim7 := { stood := { row := topoOthersRow, standIns := [], harness := (true, "e066ce63263c4bd7ab5ef11045a8b857106e767404eef14bbae601ad13bdf727"), looks := true }, kinds := [], alts := [], laidByText := true, laidKinds := [.sentinel, .sentinel, .sentinel, .sentinel, .sentinel, .sentinel, .sentinel], laidTests := true, laidLooks := .later }
def TopoOthersCardSaid : Prop := Claim7.holds Tryz.pinned (.plain (OpenSpec.ofChange topoOthersSpec)) topoOthersCard

/-- THE TIED CARD OF 'rivuletlaw12.SeatSays'. -/
def seatSaysCard : Claim7 := { stood := { row := seatSaysRow, standIns := [], harness := (true, "e066ce63263c4bd7ab5ef11045a8b857106e767404eef14bbae601ad13bdf727"), looks := true }, kinds := [], alts := [], laidByText := true, laidKinds := [.sentinel, .sentinel, .sentinel, .sentinel, .sentinel, .sentinel, .sentinel], laidTests := true, laidLooks := .later }
def SeatSaysCardSaid : Prop := Claim7.holds Tryz.pinned (.plain (OpenSpec.ofChange seatSaysSpec)) seatSaysCard

/-- THE TIED CARD OF 'rivuletlaw8.TopoSays'. -/
def topoSaysCard : Claim7 := { stood := { row := topoSaysRow, standIns := [], harness := (true, "e066ce63263c4bd7ab5ef11045a8b857106e767404eef14bbae601ad13bdf727"), looks := true }, kinds := [], alts := [], laidByText := true, laidKinds := [.sentinel, .sentinel, .sentinel, .sentinel, .sentinel, .sentinel, .sentinel, .sentinel, .sentinel, .sentinel, .sentinel, .sentinel, .sentinel, .sentinel], laidTests := true, laidLooks := .later }
def TopoSaysCardSaid : Prop := Claim7.holds Tryz.pinned (.plain (OpenSpec.ofChange topoSaysSpec)) topoSaysCard

/-- THE TIED CARD OF 'rivuletlaw13.QuerSays'. -/
def querSaysCard : Claim7 := { stood := { row := querSaysRow, standIns := [], harness := (true, "e066ce63263c4bd7ab5ef11045a8b857106e767404eef14bbae601ad13bdf727"), looks := true }, kinds := [], alts := [], laidByText := true, laidKinds := [.sentinel, .sentinel, .sentinel, .sentinel, .sentinel, .sentinel, .sentinel], laidTests := true, laidLooks := .later }
def QuerSaysCardSaid : Prop := Claim7.holds Tryz.pinned (.plain (OpenSpec.ofChange querSaysSpec)) querSaysCard

/-- THE TIED CARD OF 'rivuletlaw9.RibSays'. -/
def ribSaysCard : Claim7 := { stood := { row := ribSaysRow, standIns := [], harness := (true, "e066ce63263c4bd7ab5ef11045a8b857106e767404eef14bbae601ad13bdf727"), looks := true }, kinds := [], alts := [], laidByText := true, laidKinds := [.sentinel, .sentinel, .sentinel, .sentinel, .sentinel, .sentinel, .sentinel], laidTests := true, laidLooks := .later }
def RibSaysCardSaid : Prop := Claim7.holds Tryz.pinned (.plain (OpenSpec.ofChange ribSaysSpec)) ribSaysCard

/-- THE TIED CARD OF 'rivuletlaw11.RpfLines'. -/
def rpfLinesCard : Claim7 := { stood := { row := rpfLinesRow, standIns := [], harness := (true, "e066ce63263c4bd7ab5ef11045a8b857106e767404eef14bbae601ad13bdf727"), looks := true }, kinds := [], alts := [], laidByText := true, laidKinds := [.sentinel, .sentinel, .sentinel, .sentinel, .sentinel, .sentinel, .sentinel], laidTests := true, laidLooks := .later }
def RpfLinesCardSaid : Prop := Claim7.holds Tryz.pinned (.plain (OpenSpec.ofChange rpfLinesSpec)) rpfLinesCard

/-- THE TIED CARD OF 'rivuletlaw11.RpfUp'. -/
def rpfUpCard : Claim7 := { stood := { row := rpfUpRow, standIns := [], harness := (true, "e066ce63263c4bd7ab5ef11045a8b857106e767404eef14bbae601ad13bdf727"), looks := true }, kinds := [], alts := [], laidByText := true, laidKinds := [.sentinel, .sentinel, .sentinel, .sentinel, .sentinel, .sentinel, .sentinel], laidTests := true, laidLooks := .later }
def RpfUpCardSaid : Prop := Claim7.holds Tryz.pinned (.plain (OpenSpec.ofChange rpfUpSpec)) rpfUpCard

/-- THE TIED CARD OF 'rivuletlaw11.RpfChains'. -/
def rpfChainsCard : Claim7 := { stood := { row := rpfChainsRow, standIns := [], harness := (true, "e066ce63263c4bd7ab5ef11045a8b857106e767404eef14bbae601ad13bdf727"), looks := true }, kinds := [], alts := [], laidByText := true, laidKinds := [.sentinel, .sentinel, .sentinel, .sentinel, .sentinel, .sentinel, .sentinel], laidTests := true, laidLooks := .later }
def RpfChainsCardSaid : Prop := Claim7.holds Tryz.pinned (.plain (OpenSpec.ofChange rpfChainsSpec)) rpfChainsCard

/-- THE TIED CARD OF 'rivuletlaw11.RpfSays'. -/
def rpfSaysCard : Claim7 := { stood := { row := rpfSaysRow, standIns := [], harness := (true, "e066ce63263c4bd7ab5ef11045a8b857106e767404eef14bbae601ad13bdf727"), looks := true }, kinds := [], alts := [], laidByText := true, laidKinds := [.sentinel, .sentinel, .sentinel, .sentinel, .sentinel, .sentinel, .sentinel], laidTests := true, laidLooks := .later }
def RpfSaysCardSaid : Prop := Claim7.holds Tryz.pinned (.plain (OpenSpec.ofChange rpfSaysSpec)) rpfSaysCard

/-- THE TIED CARD OF 'rivuletlaw9.RibConnected'. -/
def ribConnectedCard : Claim7 := { stood := { row := ribConnectedRow, standIns := [], harness := (true, "e066ce63263c4bd7ab5ef11045a8b857106e767404eef14bbae601ad13bdf727"), looks := true }, kinds := [], alts := [], laidByText := true, laidKinds := [.data, .data, .data, .sentinel, .sentinel, .sentinel, .sentinel, .sentinel, .sentinel, .sentinel], laidTests := true, laidLooks := .later }
def RibConnectedCardSaid : Prop := Claim7.holds Tryz.pinned (.plain (OpenSpec.ofChange ribConnectedSpec)) ribConnectedCard

/-- THE TIED CARD OF 'rivuletlaw11.RpfRings'. -/
def rpfRingsCard : Claim7 := { stood := { row := rpfRingsRow, standIns := [], harness := (true, "e066ce63263c4bd7ab5ef11045a8b857106e767404eef14bbae601ad13bdf727"), looks := true }, kinds := [], alts := [], laidByText := true, laidKinds := [.data, .data, .data, .sentinel, .sentinel, .sentinel, .sentinel, .sentinel, .sentinel, .sentinel], laidTests := true, laidLooks := .later }
def RpfRingsCardSaid : Prop := Claim7.holds Tryz.pinned (.plain (OpenSpec.ofChange rpfRingsSpec)) rpfRingsCard

/-- THE SECOND FORM's CARD OF 'rivuletlaw8.TopoGroups'. -/
def topoGroupsUptoCard : Claim7 := { stood := { row := topoGroupsUptoRow, standIns := [], harness := (true, "e066ce63263c4bd7ab5ef11045a8b857106e767404eef14bbae601ad13bdf727"), looks := true }, kinds := [], alts := [], laidByText := true, laidKinds := [.sentinel, .sentinel, .sentinel, .sentinel, .sentinel, .sentinel, .sentinel], laidTests := true, laidLooks := .later }
def TopoGroupsUptoCardSaid : Prop := Claim7.holds Tryz.pinned (.plain (OpenSpec.upto topoGroupsSpec)) topoGroupsUptoCard

/-- THE SECOND FORM's CARD OF 'rivuletlaw10.RootOne'. -/
def rootOneUptoCard : Claim7 := { stood := { row := rootOneUptoRow, standIns := [], harness := (true, "e066ce63263c4bd7ab5ef11045a8b857106e767404eef14bbae601ad13bdf727"), looks := true }, kinds := [], alts := [], laidByText := true, laidKinds := [.sentinel, .sentinel, .sentinel, .sentinel, .sentinel, .sentinel, .sentinel], laidTests := true, laidLooks := .later }
def RootOneUptoCardSaid : Prop := Claim7.holds Tryz.pinned (.plain (OpenSpec.upto rootOneSpec)) rootOneUptoCard

/-- THE SECOND FORM's CARD OF 'rivuletlaw10.RootSays'. -/
def rootSaysUptoCard : Claim7 := { stood := { row := rootSaysUptoRow, standIns := [], harness := (true, "e066ce63263c4bd7ab5ef11045a8b857106e767404eef14bbae601ad13bdf727"), looks := true }, kinds := [], alts := [], laidByText := true, laidKinds := [.sentinel, .sentinel, .sentinel, .sentinel, .sentinel, .sentinel, .sentinel], laidTests := true, laidLooks := .later }
def RootSaysUptoCardSaid : Prop := Claim7.holds Tryz.pinned (.plain (OpenSpec.upto rootSaysSpec)) rootSaysUptoCard

/-- THE SECOND FORM's CARD OF 'rivuletlaw10.RootRanges'. -/
def rootRangesUptoCard : Claim7 := { stood := { row := rootRangesUptoRow, standIns := [], harness := (true, "e066ce63263c4bd7ab5ef11045a8b857106e767404eef14bbae601ad13bdf727"), looks := true }, kinds := [], alts := [], laidByText := true, laidKinds := [.sentinel, .sentinel, .sentinel, .sentinel, .sentinel, .sentinel, .sentinel], laidTests := true, laidLooks := .later }
def RootRangesUptoCardSaid : Prop := Claim7.holds Tryz.pinned (.plain (OpenSpec.upto rootRangesSpec)) rootRangesUptoCard

/-- THE SECOND FORM's CARD OF 'rivuletlaw10.RootNone'. -/
def rootNoneUptoCard : Claim7 := { stood := { row := rootNoneUptoRow, standIns := [], harness := (true, "e066ce63263c4bd7ab5ef11045a8b857106e767404eef14bbae601ad13bdf727"), looks := true }, kinds := [], alts := [], laidByText := true, laidKinds := [.sentinel, .sentinel, .sentinel, .sentinel, .sentinel, .sentinel, .sentinel], laidTests := true, laidLooks := .later }
def RootNoneUptoCardSaid : Prop := Claim7.holds Tryz.pinned (.plain (OpenSpec.upto rootNoneSpec)) rootNoneUptoCard

/-- THE SECOND FORM's CARD OF 'rivuletlaw8.TopoOthers'. -/
def topoOthersUptoCard : Claim7 := { stood := { row := topoOthersUptoRow, standIns := [], harness := (true, "e066ce63263c4bd7ab5ef11045a8b857106e767404eef14bbae601ad13bdf727"), looks := true }, kinds := [], alts := [], laidByText := true, laidKinds := [.sentinel, .sentinel, .sentinel, .sentinel, .sentinel, .sentinel, .sentinel], laidTests := true, laidLooks := .later }
def TopoOthersUptoCardSaid : Prop := Claim7.holds Tryz.pinned (.plain (OpenSpec.upto topoOthersSpec)) topoOthersUptoCard

/-- THE SECOND FORM's CARD OF 'rivuletlaw12.SeatSays'. -/
def seatSaysUptoCard : Claim7 := { stood := { row := seatSaysUptoRow, standIns := [], harness := (true, "e066ce63263c4bd7ab5ef11045a8b857106e767404eef14bbae601ad13bdf727"), looks := true }, kinds := [], alts := [], laidByText := true, laidKinds := [.sentinel, .sentinel, .sentinel, .sentinel, .sentinel, .sentinel, .sentinel], laidTests := true, laidLooks := .later }
def SeatSaysUptoCardSaid : Prop := Claim7.holds Tryz.pinned (.plain (OpenSpec.upto seatSaysSpec)) seatSaysUptoCard

/-- THE SECOND FORM's CARD OF 'rivuletlaw8.TopoSays'. -/
def topoSaysUptoCard : Claim7 := { stood := { row := topoSaysUptoRow, standIns := [], harness := (true, "e066ce63263c4bd7ab5ef11045a8b857106e767404eef14bbae601ad13bdf727"), looks := true }, kinds := [], alts := [], laidByText := true, laidKinds := [.sentinel, .sentinel, .sentinel, .sentinel, .sentinel, .sentinel, .sentinel, .sentinel, .sentinel, .sentinel, .sentinel, .sentinel, .sentinel, .sentinel], laidTests := true, laidLooks := .later }
def TopoSaysUptoCardSaid : Prop := Claim7.holds Tryz.pinned (.plain (OpenSpec.upto topoSaysSpec)) topoSaysUptoCard

/-- THE SECOND FORM's CARD OF 'rivuletlaw13.QuerSays'. -/
def querSaysUptoCard : Claim7 := { stood := { row := querSaysUptoRow, standIns := [], harness := (true, "e066ce63263c4bd7ab5ef11045a8b857106e767404eef14bbae601ad13bdf727"), looks := true }, kinds := [], alts := [], laidByText := true, laidKinds := [.sentinel, .sentinel, .sentinel, .sentinel, .sentinel, .sentinel, .sentinel], laidTests := true, laidLooks := .later }
def QuerSaysUptoCardSaid : Prop := Claim7.holds Tryz.pinned (.plain (OpenSpec.upto querSaysSpec)) querSaysUptoCard

/-- THE SECOND FORM's CARD OF 'rivuletlaw9.RibSays'. -/
def ribSaysUptoCard : Claim7 := { stood := { row := ribSaysUptoRow, standIns := [], harness := (true, "e066ce63263c4bd7ab5ef11045a8b857106e767404eef14bbae601ad13bdf727"), looks := true }, kinds := [], alts := [], laidByText := true, laidKinds := [.sentinel, .sentinel, .sentinel, .sentinel, .sentinel, .sentinel, .sentinel], laidTests := true, laidLooks := .later }
def RibSaysUptoCardSaid : Prop := Claim7.holds Tryz.pinned (.plain (OpenSpec.upto ribSaysSpec)) ribSaysUptoCard

/-- THE SECOND FORM's CARD OF 'rivuletlaw11.RpfLines'. -/
def rpfLinesUptoCard : Claim7 := { stood := { row := rpfLinesUptoRow, standIns := [], harness := (true, "e066ce63263c4bd7ab5ef11045a8b857106e767404eef14bbae601ad13bdf727"), looks := true }, kinds := [], alts := [], laidByText := true, laidKinds := [.sentinel, .sentinel, .sentinel, .sentinel, .sentinel, .sentinel, .sentinel], laidTests := true, laidLooks := .later }
def RpfLinesUptoCardSaid : Prop := Claim7.holds Tryz.pinned (.plain (OpenSpec.upto rpfLinesSpec)) rpfLinesUptoCard

/-- THE SECOND FORM's CARD OF 'rivuletlaw11.RpfUp'. -/
def rpfUpUptoCard : Claim7 := { stood := { row := rpfUpUptoRow, standIns := [], harness := (true, "e066ce63263c4bd7ab5ef11045a8b857106e767404eef14bbae601ad13bdf727"), looks := true }, kinds := [], alts := [], laidByText := true, laidKinds := [.sentinel, .sentinel, .sentinel, .sentinel, .sentinel, .sentinel, .sentinel], laidTests := true, laidLooks := .later }
def RpfUpUptoCardSaid : Prop := Claim7.holds Tryz.pinned (.plain (OpenSpec.upto rpfUpSpec)) rpfUpUptoCard

/-- THE SECOND FORM's CARD OF 'rivuletlaw11.RpfChains'. -/
def rpfChainsUptoCard : Claim7 := { stood := { row := rpfChainsUptoRow, standIns := [], harness := (true, "e066ce63263c4bd7ab5ef11045a8b857106e767404eef14bbae601ad13bdf727"), looks := true }, kinds := [], alts := [], laidByText := true, laidKinds := [.sentinel, .sentinel, .sentinel, .sentinel, .sentinel, .sentinel, .sentinel], laidTests := true, laidLooks := .later }
def RpfChainsUptoCardSaid : Prop := Claim7.holds Tryz.pinned (.plain (OpenSpec.upto rpfChainsSpec)) rpfChainsUptoCard

/-- THE SECOND FORM's CARD OF 'rivuletlaw11.RpfSays'. -/
def rpfSaysUptoCard : Claim7 := { stood := { row := rpfSaysUptoRow, standIns := [], harness := (true, "e066ce63263c4bd7ab5ef11045a8b857106e767404eef14bbae601ad13bdf727"), looks := true }, kinds := [], alts := [], laidByText := true, laidKinds := [.sentinel, .sentinel, .sentinel, .sentinel, .sentinel, .sentinel, .sentinel], laidTests := true, laidLooks := .later }
def RpfSaysUptoCardSaid : Prop := Claim7.holds Tryz.pinned (.plain (OpenSpec.upto rpfSaysSpec)) rpfSaysUptoCard

/-- THE SECOND FORM's CARD OF 'rivuletlaw9.RibConnected'. -/
def ribConnectedUptoCard : Claim7 := { stood := { row := ribConnectedUptoRow, standIns := [], harness := (true, "e066ce63263c4bd7ab5ef11045a8b857106e767404eef14bbae601ad13bdf727"), looks := true }, kinds := [], alts := [], laidByText := true, laidKinds := [.data, .data, .data, .sentinel, .sentinel, .sentinel, .sentinel, .sentinel, .sentinel, .sentinel], laidTests := true, laidLooks := .later }
def RibConnectedUptoCardSaid : Prop := Claim7.holds Tryz.pinned (.plain (OpenSpec.upto ribConnectedSpec)) ribConnectedUptoCard

/-- THE SECOND FORM's CARD OF 'rivuletlaw11.RpfRings'. -/
def rpfRingsUptoCard : Claim7 := { stood := { row := rpfRingsUptoRow, standIns := [], harness := (true, "e066ce63263c4bd7ab5ef11045a8b857106e767404eef14bbae601ad13bdf727"), looks := true }, kinds := [], alts := [], laidByText := true, laidKinds := [.data, .data, .data, .sentinel, .sentinel, .sentinel, .sentinel, .sentinel, .sentinel, .sentinel], laidTests := true, laidLooks := .later }
def RpfRingsUptoCardSaid : Prop := Claim7.holds Tryz.pinned (.plain (OpenSpec.upto rpfRingsSpec)) rpfRingsUptoCard
end Rows
end Go.Proofs.YtobofhbklfallaaGreatDoor
