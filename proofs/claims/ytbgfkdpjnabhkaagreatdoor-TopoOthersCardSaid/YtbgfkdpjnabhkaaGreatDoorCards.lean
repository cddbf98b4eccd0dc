/-
  DERIVED. GIVEN WITH THE SEED: THE CARDS: each row of YtbgfkdpjnabhkaaGreatDoorRows.lean that lists a variable, with what it lists TIED to the program's text (the seventh form; the later family's looks); each row that meets fmt, with fmt's text TOLD by the authors' own Lean function (tested against real Go, not proved from fmt's source: count such statements apart). THE CARD IS WHAT COUNTS. Prove the row's statement (the work); the ties are given (YtbgfkdpjnabhkaaGreatDoorTie.lean); close each card by the builder's one call (the guide's Derived/Test/ToyasCard.lean, 'card_holds'). Laid BY PROGRAM, IN A SANDBOX (cutbox-door.mjs). By AI agents, Wed Nov 11 2026. No macro, syntax, notation, axiom, sorry.
-/
import Derived.Test.YtbgfkdpjnabhkaaGreatDoorRows
import GoSem.ClaimSeven
namespace Go.Proofs.YtbgfkdpjnabhkaaGreatDoor
namespace Rows

/-- THE TIED CARD OF 'rivuletlaw10.RootSays'. -/
def rootSaysCard : Claim7 := { stood := { row := rootSaysRow, standIns := [], harness := (true, "288713d75d79cba3218353d37c123daa7e8f45ef5fcc29f3e0fed0295cf70ad6"), looks := true }, kinds := [], alts := [], laidByText := true, laidKinds := [.sentinel, .sentinel, .sentinel, .sentinel, .sentinel, .sentinel, .sentinel], laidTests := true, laidLooks := .later }
def RootSaysCardSaid : Prop := Claim7.holds Tryz.pinned (.plain (OpenSpec.ofChange rootSaysSpec)) rootSaysCard

/-- THE TIED CARD OF 'rivuletlaw10.RootRanges'. -/
def rootRangesCard : Claim7 := { stood := { row := rootRangesRow, standIns := [], harness := (true, "288713d75d79cba3218353d37c123daa7e8f45ef5fcc29f3e0fed0295cf70ad6"), looks := true }, kinds := [], alts := [], laidByText := true, laidKinds := [.sentinel, .sentinel, .sentinel, .sentinel, .sentinel, .sentinel, .sentinel], laidTests := true, laidLooks := .later }
def RootRangesCardSaid : Prop := Claim7.holds Tryz.pinned (.plain (OpenSpec.ofChange rootRangesSpec)) rootRangesCard

/-- THE TIED CARD OF 'rivuletlaw10.RootNone'. -/
def rootNoneCard : Claim7 := { stood := { row := rootNoneRow, standIns := [], harness := (true, "288713d75d79cba3218353d37c123daa7e8f45ef5fcc29f3e0fed0295cf70ad6"), looks := true }, kinds := [], alts := [], laidByText := true, laidKinds := [.sentinel, .sentinel, .sentinel, .sentinel, .sentinel, .sentinel, .sentinel], laidTests := true, laidLooks := .later }
def RootNoneCardSaid : Prop := Claim7.holds Tryz.pinned (.plain (OpenSpec.ofChange rootNoneSpec)) rootNoneCard

/-- THE TIED CARD OF 'rivuletlaw8.TopoOthers'. -/
def topoOthersCard : Claim7 := { stood := { row := topoOthersRow, standIns := [], harness := (true, "288713d75d79cba3218353d37c123daa7e8f45ef5fcc29f3e0fed0295cf70ad6"), looks := true }, kinds := [], alts := [], laidByText := true, laidKinds := [.sentinel, .sentinel, .sentinel, .sentinel, .sentinel, .sentinel, .sentinel], laidTests := true, laidLooks := .later }
def TopoOthersCardSaid : Prop := Claim7.holds Tryz.pinned (.plain (OpenSpec.ofChange topoOthersSpec)) topoOthersCard

/-- THE TIED CARD OF 'rivuletlaw12.SeatSays'. -/
def seatSaysCard : Claim7 := { stood := { row := seatSaysRow, standIns := [], harness := (true, "288713d75d79cba3218353d37c123daa7e8f45ef5fcc29f3e0fed0295cf70ad6"), looks := true }, kinds := [], alts := [], laidByText := true, laidKinds := [.sentinel, .sentinel, .sentinel, .sentinel, .sentinel, .sentinel, .sentinel], laidTests := true, laidLooks := .later }
def SeatSaysCardSaid : Prop := Claim7.holds Tryz.pinned (.plain (OpenSpec.ofChange seatSaysSpec)) seatSaysCard

/-- THE TIED CARD OF 'rivuletlaw8.TopoSays'. -/
def topoSaysCard : Claim7 := { stood := { row := topoSaysRow, standIns := [], harness := (true, "288713d75d79cba3218353d37c123daa7e8f45ef5fcc29f3e0fed0295cf70ad6"), looks := true }, kinds := [], alts := [], laidByText := true, laidKinds := [.sentinel, .sentinel, .sentinel, .sentinel, .sentinel, .sentinel, .sentinel, .sentinel, .sentinel, .sentinel, .sentinel, .sentinel, .sentinel, .sentinel], laidTests := true, laidLooks := .later }
def TopoSaysCardSaid : Prop := Claim7.holds Tryz.pinned (.plain (OpenSpec.ofChange topoSaysSpec)) topoSaysCard

/-- THE TIED CARD OF 'rivuletlaw13.QuerSays'. -/
def querSaysCard : Claim7 := { stood := { row := querSaysRow, standIns := [], harness := (true, "288713d75d79cba3218353d37c123daa7e8f45ef5fcc29f3e0fed0295cf70ad6"), looks := true }, kinds := [], alts := [], laidByText := true, laidKinds := [.sentinel, .sentinel, .sentinel, .sentinel, .sentinel, .sentinel, .sentinel], laidTests := true, laidLooks := .later }
def QuerSaysCardSaid : Prop := Claim7.holds Tryz.pinned (.plain (OpenSpec.ofChange querSaysSpec)) querSaysCard

/-- THE SECOND FORM's CARD OF 'rivuletlaw10.RootSays'. -/
def rootSaysUptoCard : Claim7 := { stood := { row := rootSaysUptoRow, standIns := [], harness := (true, "288713d75d79cba3218353d37c123daa7e8f45ef5fcc29f3e0fed0295cf70ad6"), looks := true }, kinds := [], alts := [], laidByText := true, laidKinds := [.sentinel, .sentinel, .sentinel, .sentinel, .sentinel, .sentinel, .sentinel], laidTests := true, laidLooks := .later }
def RootSaysUptoCardSaid : Prop := Claim7.holds Tryz.pinned (.plain (OpenSpec.upto rootSaysSpec)) rootSaysUptoCard

/-- THE SECOND FORM's CARD OF 'rivuletlaw10.RootRanges'. -/
def rootRangesUptoCard : Claim7 := { stood := { row := rootRangesUptoRow, standIns := [], harness := (true, "288713d75d79cba3218353d37c123daa7e8f45ef5fcc29f3e0fed0295cf70ad6"), looks := true }, kinds := [], alts := [], laidByText := true, laidKinds := [.sentinel, .sentinel, .sentinel, .sentinel, .sentinel, .sentinel, .sentinel], laidTests := true, laidLooks := .later }
def RootRangesUptoCardSaid : Prop := Claim7.holds Tryz.pinned (.plain (OpenSpec.upto rootRangesSpec)) rootRangesUptoCard

/-- THE SECOND FORM's CARD OF 'rivuletlaw10.RootNone'. -/
def rootNoneUptoCard : Claim7 := { stood := { row := rootNoneUptoRow, standIns := [], harness := (true, "288713d75d79cba3218353d37c123daa7e8f45ef5fcc29f3e0fed0295cf70ad6"), looks := true }, kinds := [], alts := [], laidByText := true, laidKinds := [.sentinel, .sentinel, .sentinel, .sentinel, .sentinel, .sentinel, .sentinel], laidTests := true, laidLooks := .later }
def RootNoneUptoCardSaid : Prop := Claim7.holds Tryz.pinned (.plain (OpenSpec.upto rootNoneSpec)) rootNoneUptoCard

/-- THE SECOND FORM's CARD OF 'rivuletlaw8.TopoOthers'. -/
def topoOthersUptoCard : Claim7 := { stood := { row := topoOthersUptoRow, standIns := [], harness := (true, "288713d75d79cba3218353d37c123daa7e8f45ef5fcc29f3e0fed0295cf70ad6"), looks := true }, kinds := [], alts := [], laidByText := true, laidKinds := [.sentinel, .sentinel, .sentinel, .sentinel, .sentinel, .sentinel, .sentinel], laidTests := true, laidLooks := .later }
def TopoOthersUptoCardSaid : Prop := Claim7.holds Tryz.pinned (.plain (OpenSpec.upto topoOthersSpec)) topoOthersUptoCard

/-- THE SECOND FORM's CARD OF 'rivuletlaw12.SeatSays'. -/
def seatSaysUptoCard : Claim7 := { stood := { row := seatSaysUptoRow, standIns := [], harness := (true, "288713d75d79cba3218353d37c123daa7e8f45ef5fcc29f3e0fed0295cf70ad6"), looks := true }, kinds := [], alts := [], laidByText := true, laidKinds := [.sentinel, .sentinel, .sentinel, .sentinel, .sentinel, .sentinel, .sentinel], laidTests := true, laidLooks := .later }
def SeatSaysUptoCardSaid : Prop := Claim7.holds Tryz.pinned (.plain (OpenSpec.upto seatSaysSpec)) seatSaysUptoCard

/-- THE SECOND FORM's CARD OF 'rivuletlaw8.TopoSays'. -/
def topoSaysUptoCard : Claim7 := { stood := { row := topoSaysUptoRow, standIns := [], harness := (true, "288713d75d79cba3218353d37c123daa7e8f45ef5fcc29f3e0fed0295cf70ad6"), looks := true }, kinds := [], alts := [], laidByText := true, laidKinds := [.sentinel, .sentinel, .sentinel, .sentinel, .sentinel, .sentinel, .sentinel, .sentinel, .sentinel, .sentinel, .sentinel, .sentinel, .sentinel, .sentinel], laidTests := true, laidLooks := .later }
def TopoSaysUptoCardSaid : Prop := Claim7.holds Tryz.pinned (.plain (OpenSpec.upto topoSaysSpec)) topoSaysUptoCard

/-- THE SECOND FORM's CARD OF 'rivuletlaw13.QuerSays'. -/
def querSaysUptoCard : Claim7 := { stood := { row := querSaysUptoRow, standIns := [], harness := (true, "288713d75d79cba3218353d37c123daa7e8f45ef5fcc29f3e0fed0295cf70ad6"), looks := true }, kinds := [], alts := [], laidByText := true, laidKinds := [.sentinel, .sentinel, .sentinel, .sentinel, .sentinel, .sentinel, .sentinel], laidTests := true, laidLooks := .later }
def QuerSaysUptoCardSaid : Prop := Claim7.holds Tryz.pinned (.plain (OpenSpec.upto querSaysSpec)) querSaysUptoCard
end Rows
end Go.Proofs.YtbgfkdpjnabhkaaGreatDoor
