/-
  DERIVED. GIVEN WITH THE SEED: THE CARDS: each row of YtjceingdmfogeaaGreatDoorRows.lean that lists a variable, with what it lists TIED to the program's text (the seventh form; the later family's looks); each row that meets fmt, with fmt's text TOLD by the authors' own Lean function (tested against real Go, not proved from fmt's source: count such statements apart). THE CARD IS WHAT COUNTS. Prove the row's statement (the work); the ties are given (YtjceingdmfogeaaGreatDoorTie.lean); close each card by the builder's one call (the guide's Derived/Test/ToyasCard.lean, 'card_holds'). Laid BY PROGRAM, IN A SANDBOX (cutbox-door.mjs). By AI agents, Wed Nov 11 2026. No macro, syntax, notation, axiom, sorry.
-/
import Derived.Test.YtjceingdmfogeaaGreatDoorRows
import GoSem.ClaimSeven
namespace Go.Proofs.YtjceingdmfogeaaGreatDoor
namespace Rows

/-- THE TIED CARD OF 'rivuletlaw9.RibConnected'. -/
def ribConnectedCard : Claim7 := { stood := { row := ribConnectedRow, standIns := [], harness := (true, "8d77312236e50474dcf08c242c767a29215860cbb6d6597dc0c93eacbd5bca85"), looks := false }, kinds := [], alts := [], laidByText := true, laidKinds := [.data, .data, .data, .sentinel, .sentinel, .sentinel, .sentinel, .sentinel, .sentinel, .sentinel], laidTests := true, laidLooks := .later }
def RibConnectedCardSaid : Prop := Claim7.holds Tryz.pinned (.plain (OpenSpec.ofChange ribConnectedSpec)) ribConnectedCard

/-- THE TIED CARD OF 'rivuletlaw11.RpfRings'. -/
def rpfRingsCard : Claim7 := { stood := { row := rpfRingsRow, standIns := [], harness := (true, "8d77312236e50474dcf08c242c767a29215860cbb6d6597dc0c93eacbd5bca85"), looks := false }, kinds := [], alts := [], laidByText := true, laidKinds := [.data, .data, .data, .sentinel, .sentinel, .sentinel, .sentinel, .sentinel, .sentinel, .sentinel], laidTests := true, laidLooks := .later }
def RpfRingsCardSaid : Prop := Claim7.holds Tryz.pinned (.plain (OpenSpec.ofChange rpfRingsSpec)) rpfRingsCard

/-- THE SECOND FORM's CARD OF 'rivuletlaw9.RibConnected'. -/
def ribConnectedUptoCard : Claim7 := { stood := { row := ribConnectedUptoRow, standIns := [], harness := (true, "8d77312236e50474dcf08c242c767a29215860cbb6d6597dc0c93eacbd5bca85"), looks := false }, kinds := [], alts := [], laidByText := true, laidKinds := [.data, .data, .data, .sentinel, .sentinel, .sentinel, .sentinel, .sentinel, .sentinel, .sentinel], laidTests := true, laidLooks := .later }
def RibConnectedUptoCardSaid : Prop := Claim7.holds Tryz.pinned (.plain (OpenSpec.upto ribConnectedSpec)) ribConnectedUptoCard

/-- THE SECOND FORM's CARD OF 'rivuletlaw11.RpfRings'. -/
def rpfRingsUptoCard : Claim7 := { stood := { row := rpfRingsUptoRow, standIns := [], harness := (true, "8d77312236e50474dcf08c242c767a29215860cbb6d6597dc0c93eacbd5bca85"), looks := false }, kinds := [], alts := [], laidByText := true, laidKinds := [.data, .data, .data, .sentinel, .sentinel, .sentinel, .sentinel, .sentinel, .sentinel, .sentinel], laidTests := true, laidLooks := .later }
def RpfRingsUptoCardSaid : Prop := Claim7.holds Tryz.pinned (.plain (OpenSpec.upto rpfRingsSpec)) rpfRingsUptoCard
end Rows
end Go.Proofs.YtjceingdmfogeaaGreatDoor
