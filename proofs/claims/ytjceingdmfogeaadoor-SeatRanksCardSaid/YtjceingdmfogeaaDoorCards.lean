/-
  DERIVED. GIVEN WITH THE SEED: THE CARDS: each row of YtjceingdmfogeaaDoorRows.lean that lists a variable, with what it lists TIED to the program's text (the seventh form; the later family's looks); each row that meets fmt, with fmt's text TOLD by the authors' own Lean function (tested against real Go, not proved from fmt's source: count such statements apart). THE CARD IS WHAT COUNTS. Prove the row's statement (the work); the ties are given (YtjceingdmfogeaaDoorTie.lean); close each card by the builder's one call (the guide's Derived/Test/ToyasCard.lean, 'card_holds'). Laid BY PROGRAM, IN A SANDBOX (cutbox-door.mjs). By AI agents, Wed Nov 11 2026. No macro, syntax, notation, axiom, sorry.
-/
import Derived.Test.YtjceingdmfogeaaDoorRows
import GoSem.ClaimSeven
namespace Go.Proofs.YtjceingdmfogeaaDoor
namespace Rows

/-- THE TIED CARD OF 'rivuletlaw12.SeatRanks'. -/
def seatRanksCard : Claim7 := { stood := { row := seatRanksRow, standIns := [], harness := (true, "8d9ddd940d4b1a4ef888d1fa30e514bf5d37f6146e4549fb7c9ec065c9860c75"), looks := false }, kinds := [], alts := [], laidByText := true, laidKinds := [.sentinel, .sentinel, .sentinel, .sentinel, .sentinel, .sentinel, .sentinel], laidTests := true, laidLooks := .later }
def SeatRanksCardSaid : Prop := Claim7.holds Tryd.pinned (.plain (OpenSpec.ofChange seatRanksSpec)) seatRanksCard

/-- THE TIED CARD OF 'rivuletlaw8.TopoLines'. -/
def topoLinesCard : Claim7 := { stood := { row := topoLinesRow, standIns := [], harness := (true, "8d9ddd940d4b1a4ef888d1fa30e514bf5d37f6146e4549fb7c9ec065c9860c75"), looks := false }, kinds := [], alts := [], laidByText := true, laidKinds := [.sentinel, .sentinel, .sentinel, .sentinel, .sentinel, .sentinel, .sentinel], laidTests := true, laidLooks := .later }
def TopoLinesCardSaid : Prop := Claim7.holds Tryd.pinned (.plain (OpenSpec.ofChange topoLinesSpec)) topoLinesCard

/-- THE TIED CARD OF 'rivuletlaw9.RibLines'. -/
def ribLinesCard : Claim7 := { stood := { row := ribLinesRow, standIns := [], harness := (true, "8d9ddd940d4b1a4ef888d1fa30e514bf5d37f6146e4549fb7c9ec065c9860c75"), looks := false }, kinds := [], alts := [], laidByText := true, laidKinds := [.sentinel, .sentinel, .sentinel, .sentinel, .sentinel, .sentinel, .sentinel], laidTests := true, laidLooks := .later }
def RibLinesCardSaid : Prop := Claim7.holds Tryd.pinned (.plain (OpenSpec.ofChange ribLinesSpec)) ribLinesCard

/-- THE TIED CARD OF 'rivuletlaw9.RibDeep'. -/
def ribDeepCard : Claim7 := { stood := { row := ribDeepRow, standIns := [], harness := (true, "8d9ddd940d4b1a4ef888d1fa30e514bf5d37f6146e4549fb7c9ec065c9860c75"), looks := false }, kinds := [], alts := [], laidByText := true, laidKinds := [.sentinel, .sentinel, .sentinel, .sentinel, .sentinel, .sentinel, .sentinel], laidTests := true, laidLooks := .later }
def RibDeepCardSaid : Prop := Claim7.holds Tryd.pinned (.plain (OpenSpec.ofChange ribDeepSpec)) ribDeepCard

/-- THE TIED CARD OF 'rivuletlaw9.RibLeast'. -/
def ribLeastCard : Claim7 := { stood := { row := ribLeastRow, standIns := [], harness := (true, "8d9ddd940d4b1a4ef888d1fa30e514bf5d37f6146e4549fb7c9ec065c9860c75"), looks := false }, kinds := [], alts := [], laidByText := true, laidKinds := [.sentinel, .sentinel, .sentinel, .sentinel, .sentinel, .sentinel, .sentinel], laidTests := true, laidLooks := .later }
def RibLeastCardSaid : Prop := Claim7.holds Tryd.pinned (.plain (OpenSpec.ofChange ribLeastSpec)) ribLeastCard

/-- THE TIED CARD OF 'rivuletlaw9.RibRings'. -/
def ribRingsCard : Claim7 := { stood := { row := ribRingsRow, standIns := [], harness := (true, "8d9ddd940d4b1a4ef888d1fa30e514bf5d37f6146e4549fb7c9ec065c9860c75"), looks := false }, kinds := [], alts := [], laidByText := true, laidKinds := [.sentinel, .sentinel, .sentinel, .sentinel, .sentinel, .sentinel, .sentinel], laidTests := true, laidLooks := .later }
def RibRingsCardSaid : Prop := Claim7.holds Tryd.pinned (.plain (OpenSpec.ofChange ribRingsSpec)) ribRingsCard

/-- THE SECOND FORM's CARD OF 'rivuletlaw12.SeatRanks'. -/
def seatRanksUptoCard : Claim7 := { stood := { row := seatRanksUptoRow, standIns := [], harness := (true, "8d9ddd940d4b1a4ef888d1fa30e514bf5d37f6146e4549fb7c9ec065c9860c75"), looks := false }, kinds := [], alts := [], laidByText := true, laidKinds := [.sentinel, .sentinel, .sentinel, .sentinel, .sentinel, .sentinel, .sentinel], laidTests := true, laidLooks := .later }
def SeatRanksUptoCardSaid : Prop := Claim7.holds Tryd.pinned (.plain (OpenSpec.upto seatRanksSpec)) seatRanksUptoCard

/-- THE SECOND FORM's CARD OF 'rivuletlaw8.TopoLines'. -/
def topoLinesUptoCard : Claim7 := { stood := { row := topoLinesUptoRow, standIns := [], harness := (true, "8d9ddd940d4b1a4ef888d1fa30e514bf5d37f6146e4549fb7c9ec065c9860c75"), looks := false }, kinds := [], alts := [], laidByText := true, laidKinds := [.sentinel, .sentinel, .sentinel, .sentinel, .sentinel, .sentinel, .sentinel], laidTests := true, laidLooks := .later }
def TopoLinesUptoCardSaid : Prop := Claim7.holds Tryd.pinned (.plain (OpenSpec.upto topoLinesSpec)) topoLinesUptoCard

/-- THE SECOND FORM's CARD OF 'rivuletlaw9.RibLines'. -/
def ribLinesUptoCard : Claim7 := { stood := { row := ribLinesUptoRow, standIns := [], harness := (true, "8d9ddd940d4b1a4ef888d1fa30e514bf5d37f6146e4549fb7c9ec065c9860c75"), looks := false }, kinds := [], alts := [], laidByText := true, laidKinds := [.sentinel, .sentinel, .sentinel, .sentinel, .sentinel, .sentinel, .sentinel], laidTests := true, laidLooks := .later }
def RibLinesUptoCardSaid : Prop := Claim7.holds Tryd.pinned (.plain (OpenSpec.upto ribLinesSpec)) ribLinesUptoCard

/-- THE SECOND FORM's CARD OF 'rivuletlaw9.RibDeep'. -/
def ribDeepUptoCard : Claim7 := { stood := { row := ribDeepUptoRow, standIns := [], harness := (true, "8d9ddd940d4b1a4ef888d1fa30e514bf5d37f6146e4549fb7c9ec065c9860c75"), looks := false }, kinds := [], alts := [], laidByText := true, laidKinds := [.sentinel, .sentinel, .sentinel, .sentinel, .sentinel, .sentinel, .sentinel], laidTests := true, laidLooks := .later }
def RibDeepUptoCardSaid : Prop := Claim7.holds Tryd.pinned (.plain (OpenSpec.upto ribDeepSpec)) ribDeepUptoCard

/-- THE SECOND FORM's CARD OF 'rivuletlaw9.RibLeast'. -/
def ribLeastUptoCard : Claim7 := { stood := { row := ribLeastUptoRow, standIns := [], harness := (true, "8d9ddd940d4b1a4ef888d1fa30e514bf5d37f6146e4549fb7c9ec065c9860c75"), looks := false }, kinds := [], alts := [], laidByText := true, laidKinds := [.sentinel, .sentinel, .sentinel, .sentinel, .sentinel, .sentinel, .sentinel], laidTests := true, laidLooks := .later }
def RibLeastUptoCardSaid : Prop := Claim7.holds Tryd.pinned (.plain (OpenSpec.upto ribLeastSpec)) ribLeastUptoCard

/-- THE SECOND FORM's CARD OF 'rivuletlaw9.RibRings'. -/
def ribRingsUptoCard : Claim7 := { stood := { row := ribRingsUptoRow, standIns := [], harness := (true, "8d9ddd940d4b1a4ef888d1fa30e514bf5d37f6146e4549fb7c9ec065c9860c75"), looks := false }, kinds := [], alts := [], laidByText := true, laidKinds := [.sentinel, .sentinel, .sentinel, .sentinel, .sentinel, .sentinel, .sentinel], laidTests := true, laidLooks := .later }
def RibRingsUptoCardSaid : Prop := Claim7.holds Tryd.pinned (.plain (OpenSpec.upto ribRingsSpec)) ribRingsUptoCard
end Rows
end Go.Proofs.YtjceingdmfogeaaDoor
