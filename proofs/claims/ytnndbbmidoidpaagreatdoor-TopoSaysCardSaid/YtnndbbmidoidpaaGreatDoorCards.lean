/-
  DERIVED. GIVEN WITH THE SEED: THE CARDS: each row of YtnndbbmidoidpaaGreatDoorRows.lean that lists a variable, with what it lists TIED to the program's text (the seventh form; the later family's looks); each row that meets fmt, with fmt's text TOLD by the authors' own Lean function (tested against real Go, not proved from fmt's source: count such statements apart). THE CARD IS WHAT COUNTS. Prove the row's statement (the work); the ties are given (YtnndbbmidoidpaaGreatDoorTie.lean); close each card by the builder's one call (the guide's Derived/Test/ToyasCard.lean, 'card_holds'). Laid BY PROGRAM, IN A SANDBOX (cutbox-door.mjs). By AI agents, Wed Nov 11 2026. No macro, syntax, notation, axiom, sorry.
-/
import Derived.Test.YtnndbbmidoidpaaGreatDoorRows
import GoSem.ClaimSeven
namespace Go.Proofs.YtnndbbmidoidpaaGreatDoor
namespace Rows

/-- THE TIED CARD OF 'rivuletlaw8.TopoSays'. -/
def topoSaysCard : Claim7 := { stood := { row := topoSaysRow, standIns := [], harness := (true, "0c3dceba3644c16b60cf0069e21aaf908943954b2651feac0db657fabbe56794"), looks := true }, kinds := [], alts := [], laidByText := true, laidKinds := [.sentinel, .sentinel, .sentinel, .sentinel, .sentinel, .sentinel, .sentinel, .sentinel, .sentinel, .sentinel, .sentinel, .sentinel, .sentinel, .sentinel], laidTests := true, laidLooks := .later }
def TopoSaysCardSaid : Prop := Claim7.holds Tryz.pinned (.plain (OpenSpec.ofChange topoSaysSpec)) topoSaysCard

/-- THE TIED CARD OF 'rivuletlaw6.ConfWrong'. -/
def confWrongCard : Claim7 := { stood := { row := confWrongRow, standIns := [], harness := (true, "0c3dceba3644c16b60cf0069e21aaf908943954b2651feac0db657fabbe56794"), looks := true }, kinds := [], alts := [], laidByText := true, laidKinds := [.data, .data, .data, .data, .sentinel, .sentinel, .sentinel, .sentinel, .sentinel, .sentinel, .sentinel, .sentinel, .sentinel, .sentinel, .sentinel, .sentinel, .sentinel, .sentinel, .sentinel, .sentinel, .pinned], laidTests := true, laidLooks := .later }
def ConfWrongCardSaid : Prop := Claim7.holds Tryz.pinned (.plain (OpenSpec.ofChange confWrongSpec)) confWrongCard

/-- THE TIED CARD OF 'rivuletlaw6.ConfOrder'. -/
def confOrderCard : Claim7 := { stood := { row := confOrderRow, standIns := [], harness := (true, "0c3dceba3644c16b60cf0069e21aaf908943954b2651feac0db657fabbe56794"), looks := true }, kinds := [], alts := [], laidByText := true, laidKinds := [.data, .data, .data, .data, .sentinel, .sentinel, .sentinel, .sentinel, .sentinel, .sentinel, .sentinel, .sentinel, .sentinel, .sentinel, .sentinel, .sentinel, .pinned], laidTests := true, laidLooks := .later }
def ConfOrderCardSaid : Prop := Claim7.holds Tryz.pinned (.plain (OpenSpec.ofChange confOrderSpec)) confOrderCard

/-- THE TIED CARD OF 'rivuletlaw6.ConfBack'. -/
def confBackCard : Claim7 := { stood := { row := confBackRow, standIns := [], harness := (true, "0c3dceba3644c16b60cf0069e21aaf908943954b2651feac0db657fabbe56794"), looks := true }, kinds := [], alts := [], laidByText := true, laidKinds := [.data, .data, .data, .data, .sentinel, .sentinel, .sentinel, .sentinel, .sentinel, .sentinel, .sentinel, .sentinel, .sentinel, .sentinel, .sentinel, .sentinel, .pinned], laidTests := true, laidLooks := .later }
def ConfBackCardSaid : Prop := Claim7.holds Tryz.pinned (.plain (OpenSpec.ofChange confBackSpec)) confBackCard

/-- THE TIED CARD OF 'rivuletlaw6.ConfMany'. -/
def confManyCard : Claim7 := { stood := { row := confManyRow, standIns := [], harness := (true, "0c3dceba3644c16b60cf0069e21aaf908943954b2651feac0db657fabbe56794"), looks := true }, kinds := [], alts := [], laidByText := true, laidKinds := [.data, .data, .data, .data, .sentinel, .sentinel, .sentinel, .sentinel, .sentinel, .sentinel, .sentinel, .sentinel, .sentinel, .sentinel, .sentinel, .sentinel, .sentinel, .sentinel, .sentinel, .sentinel, .pinned], laidTests := true, laidLooks := .later }
def ConfManyCardSaid : Prop := Claim7.holds Tryz.pinned (.plain (OpenSpec.ofChange confManySpec)) confManyCard

/-- THE TIED CARD OF 'rivuletlaw6.ConfOwn'. -/
def confOwnCard : Claim7 := { stood := { row := confOwnRow, standIns := [], harness := (true, "0c3dceba3644c16b60cf0069e21aaf908943954b2651feac0db657fabbe56794"), looks := true }, kinds := [], alts := [], laidByText := true, laidKinds := [.data, .data, .data, .data, .sentinel, .sentinel, .sentinel, .sentinel, .sentinel, .sentinel, .sentinel, .sentinel, .sentinel, .sentinel, .sentinel, .sentinel, .pinned], laidTests := true, laidLooks := .later }
def ConfOwnCardSaid : Prop := Claim7.holds Tryz.pinned (.plain (OpenSpec.ofChange confOwnSpec)) confOwnCard

/-- THE SECOND FORM's CARD OF 'rivuletlaw8.TopoSays'. -/
def topoSaysUptoCard : Claim7 := { stood := { row := topoSaysUptoRow, standIns := [], harness := (true, "0c3dceba3644c16b60cf0069e21aaf908943954b2651feac0db657fabbe56794"), looks := true }, kinds := [], alts := [], laidByText := true, laidKinds := [.sentinel, .sentinel, .sentinel, .sentinel, .sentinel, .sentinel, .sentinel, .sentinel, .sentinel, .sentinel, .sentinel, .sentinel, .sentinel, .sentinel], laidTests := true, laidLooks := .later }
def TopoSaysUptoCardSaid : Prop := Claim7.holds Tryz.pinned (.plain (OpenSpec.upto topoSaysSpec)) topoSaysUptoCard

/-- THE SECOND FORM's CARD OF 'rivuletlaw6.ConfWrong'. -/
def confWrongUptoCard : Claim7 := { stood := { row := confWrongUptoRow, standIns := [], harness := (true, "0c3dceba3644c16b60cf0069e21aaf908943954b2651feac0db657fabbe56794"), looks := true }, kinds := [], alts := [], laidByText := true, laidKinds := [.data, .data, .data, .data, .sentinel, .sentinel, .sentinel, .sentinel, .sentinel, .sentinel, .sentinel, .sentinel, .sentinel, .sentinel, .sentinel, .sentinel, .sentinel, .sentinel, .sentinel, .sentinel, .pinned], laidTests := true, laidLooks := .later }
def ConfWrongUptoCardSaid : Prop := Claim7.holds Tryz.pinned (.plain (OpenSpec.upto confWrongSpec)) confWrongUptoCard

/-- THE SECOND FORM's CARD OF 'rivuletlaw6.ConfOrder'. -/
def confOrderUptoCard : Claim7 := { stood := { row := confOrderUptoRow, standIns := [], harness := (true, "0c3dceba3644c16b60cf0069e21aaf908943954b2651feac0db657fabbe56794"), looks := true }, kinds := [], alts := [], laidByText := true, laidKinds := [.data, .data, .data, .data, .sentinel, .sentinel, .sentinel, .sentinel, .sentinel, .sentinel, .sentinel, .sentinel, .sentinel, .sentinel, .sentinel, .sentinel, .pinned], laidTests := true, laidLooks := .later }
def ConfOrderUptoCardSaid : Prop := Claim7.holds Tryz.pinned (.plain (OpenSpec.upto confOrderSpec)) confOrderUptoCard

/-- THE SECOND FORM's CARD OF 'rivuletlaw6.ConfBack'. -/
def confBackUptoCard : Claim7 := { stood := { row := confBackUptoRow, standIns := [], harness := (true, "0c3dceba3644c16b60cf0069e21aaf908943954b2651feac0db657fabbe56794"), looks := true }, kinds := [], alts := [], laidByText := true, laidKinds := [.data, .data, .data, .data, .sentinel, .sentinel, .sentinel, .sentinel, .sentinel, .sentinel, .sentinel, .sentinel, .sentinel, .sentinel, .sentinel, .sentinel, .pinned], laidTests := true, laidLooks := .later }
def ConfBackUptoCardSaid : Prop := Claim7.holds Tryz.pinned (.plain (OpenSpec.upto confBackSpec)) confBackUptoCard

/-- THE SECOND FORM's CARD OF 'rivuletlaw6.ConfMany'. -/
def confManyUptoCard : Claim7 := { stood := { row := confManyUptoRow, standIns := [], harness := (true, "0c3dceba3644c16b60cf0069e21aaf908943954b2651feac0db657fabbe56794"), looks := true }, kinds := [], alts := [], laidByText := true, laidKinds := [.data, .data, .data, .data, .sentinel, .sentinel, .sentinel, .sentinel, .sentinel, .sentinel, .sentinel, .sentinel, .sentinel, .sentinel, .sentinel, .sentinel, .sentinel, .sentinel, .sentinel, .sentinel, .pinned], laidTests := true, laidLooks := .later }
def ConfManyUptoCardSaid : Prop := Claim7.holds Tryz.pinned (.plain (OpenSpec.upto confManySpec)) confManyUptoCard

/-- THE SECOND FORM's CARD OF 'rivuletlaw6.ConfOwn'. -/
def confOwnUptoCard : Claim7 := { stood := { row := confOwnUptoRow, standIns := [], harness := (true, "0c3dceba3644c16b60cf0069e21aaf908943954b2651feac0db657fabbe56794"), looks := true }, kinds := [], alts := [], laidByText := true, laidKinds := [.data, .data, .data, .data, .sentinel, .sentinel, .sentinel, .sentinel, .sentinel, .sentinel, .sentinel, .sentinel, .sentinel, .sentinel, .sentinel, .sentinel, .pinned], laidTests := true, laidLooks := .later }
def ConfOwnUptoCardSaid : Prop := Claim7.holds Tryz.pinned (.plain (OpenSpec.upto confOwnSpec)) confOwnUptoCard
end Rows
end Go.Proofs.YtnndbbmidoidpaaGreatDoor
