/-
  DERIVED. GIVEN WITH THE SEED: THE CARDS: each row of YtelbgkknneljeaaGreatDoorRows.lean that lists a variable, with what it lists TIED to the program's text (the seventh form; the later family's looks); each row that meets fmt, with fmt's text TOLD by the authors' own Lean function (tested against real Go, not proved from fmt's source: count such statements apart). THE CARD IS WHAT COUNTS. Prove the row's statement (the work); the ties are given (YtelbgkknneljeaaGreatDoorTie.lean); close each card by the builder's one call (the guide's Derived/Test/ToyasCard.lean, 'card_holds'). Laid BY PROGRAM, IN A SANDBOX (cutbox-door.mjs). By AI agents, Wed Nov 11 2026. No macro, syntax, notation, axiom, sorry.
-/
import Derived.Test.YtelbgkknneljeaaGreatDoorRows
import GoSem.ClaimSeven
namespace Go.Proofs.YtelbgkknneljeaaGreatDoor
namespace Rows

/-- THE TIED CARD OF 'rivuletlaw9.RibSays'. -/
def ribSaysCard : Claim7 := { stood := { row := ribSaysRow, standIns := [], harness := (true, "e5170db7ce12b4a8f4a60398c10b1e461cfb632e792fbc5b71d448cfd13463d4"), looks := false }, kinds := [], alts := [], laidByText := true, laidKinds := [.sentinel, .sentinel, .sentinel, .sentinel, .sentinel, .sentinel, .sentinel], laidTests := true, laidLooks := .later }
def RibSaysCardSaid : Prop := Claim7.holds Tryz.pinned (.plain (OpenSpec.ofChange ribSaysSpec)) ribSaysCard

/-- THE TIED CARD OF 'rivuletlaw11.RpfLines'. -/
def rpfLinesCard : Claim7 := { stood := { row := rpfLinesRow, standIns := [], harness := (true, "e5170db7ce12b4a8f4a60398c10b1e461cfb632e792fbc5b71d448cfd13463d4"), looks := false }, kinds := [], alts := [], laidByText := true, laidKinds := [.sentinel, .sentinel, .sentinel, .sentinel, .sentinel, .sentinel, .sentinel], laidTests := true, laidLooks := .later }
def RpfLinesCardSaid : Prop := Claim7.holds Tryz.pinned (.plain (OpenSpec.ofChange rpfLinesSpec)) rpfLinesCard

/-- THE TIED CARD OF 'rivuletlaw11.RpfUp'. -/
def rpfUpCard : Claim7 := { stood := { row := rpfUpRow, standIns := [], harness := (true, "e5170db7ce12b4a8f4a60398c10b1e461cfb632e792fbc5b71d448cfd13463d4"), looks := false }, kinds := [], alts := [], laidByText := true, laidKinds := [.sentinel, .sentinel, .sentinel, .sentinel, .sentinel, .sentinel, .sentinel], laidTests := true, laidLooks := .later }
def RpfUpCardSaid : Prop := Claim7.holds Tryz.pinned (.plain (OpenSpec.ofChange rpfUpSpec)) rpfUpCard

/-- THE TIED CARD OF 'rivuletlaw11.RpfChains'. -/
def rpfChainsCard : Claim7 := { stood := { row := rpfChainsRow, standIns := [], harness := (true, "e5170db7ce12b4a8f4a60398c10b1e461cfb632e792fbc5b71d448cfd13463d4"), looks := false }, kinds := [], alts := [], laidByText := true, laidKinds := [.sentinel, .sentinel, .sentinel, .sentinel, .sentinel, .sentinel, .sentinel], laidTests := true, laidLooks := .later }
def RpfChainsCardSaid : Prop := Claim7.holds Tryz.pinned (.plain (OpenSpec.ofChange rpfChainsSpec)) rpfChainsCard

/-- THE TIED CARD OF 'rivuletlaw11.RpfSays'. -/
def rpfSaysCard : Claim7 := { stood := { row := rpfSaysRow, standIns := [], harness := (true, "e5170db7ce12b4a8f4a60398c10b1e461cfb632e792fbc5b71d448cfd13463d4"), looks := false }, kinds := [], alts := [], laidByText := true, laidKinds := [.sentinel, .sentinel, .sentinel, .sentinel, .sentinel, .sentinel, .sentinel], laidTests := true, laidLooks := .later }
def RpfSaysCardSaid : Prop := Claim7.holds Tryz.pinned (.plain (OpenSpec.ofChange rpfSaysSpec)) rpfSaysCard

/-- THE SECOND FORM's CARD OF 'rivuletlaw9.RibSays'. -/
def ribSaysUptoCard : Claim7 := { stood := { row := ribSaysUptoRow, standIns := [], harness := (true, "e5170db7ce12b4a8f4a60398c10b1e461cfb632e792fbc5b71d448cfd13463d4"), looks := false }, kinds := [], alts := [], laidByText := true, laidKinds := [.sentinel, .sentinel, .sentinel, .sentinel, .sentinel, .sentinel, .sentinel], laidTests := true, laidLooks := .later }
def RibSaysUptoCardSaid : Prop := Claim7.holds Tryz.pinned (.plain (OpenSpec.upto ribSaysSpec)) ribSaysUptoCard

/-- THE SECOND FORM's CARD OF 'rivuletlaw11.RpfLines'. -/
def rpfLinesUptoCard : Claim7 := { stood := { row := rpfLinesUptoRow, standIns := [], harness := (true, "e5170db7ce12b4a8f4a60398c10b1e461cfb632e792fbc5b71d448cfd13463d4"), looks := false }, kinds := [], alts := [], laidByText := true, laidKinds := [.sentinel, .sentinel, .sentinel, .sentinel, .sentinel, .sentinel, .sentinel], laidTests := true, laidLooks := .later }
def RpfLinesUptoCardSaid : Prop := Claim7.holds Tryz.pinned (.plain (OpenSpec.upto rpfLinesSpec)) rpfLinesUptoCard

/-- THE SECOND FORM's CARD OF 'rivuletlaw11.RpfUp'. -/
def rpfUpUptoCard : Claim7 := { stood := { row := rpfUpUptoRow, standIns := [], harness := (true, "e5170db7ce12b4a8f4a60398c10b1e461cfb632e792fbc5b71d448cfd13463d4"), looks := false }, kinds := [], alts := [], laidByText := true, laidKinds := [.sentinel, .sentinel, .sentinel, .sentinel, .sentinel, .sentinel, .sentinel], laidTests := true, laidLooks := .later }
def RpfUpUptoCardSaid : Prop := Claim7.holds Tryz.pinned (.plain (OpenSpec.upto rpfUpSpec)) rpfUpUptoCard

/-- THE SECOND FORM's CARD OF 'rivuletlaw11.RpfChains'. -/
def rpfChainsUptoCard : Claim7 := { stood := { row := rpfChainsUptoRow, standIns := [], harness := (true, "e5170db7ce12b4a8f4a60398c10b1e461cfb632e792fbc5b71d448cfd13463d4"), looks := false }, kinds := [], alts := [], laidByText := true, laidKinds := [.sentinel, .sentinel, .sentinel, .sentinel, .sentinel, .sentinel, .sentinel], laidTests := true, laidLooks := .later }
def RpfChainsUptoCardSaid : Prop := Claim7.holds Tryz.pinned (.plain (OpenSpec.upto rpfChainsSpec)) rpfChainsUptoCard

/-- THE SECOND FORM's CARD OF 'rivuletlaw11.RpfSays'. -/
def rpfSaysUptoCard : Claim7 := { stood := { row := rpfSaysUptoRow, standIns := [], harness := (true, "e5170db7ce12b4a8f4a60398c10b1e461cfb632e792fbc5b71d448cfd13463d4"), looks := false }, kinds := [], alts := [], laidByText := true, laidKinds := [.sentinel, .sentinel, .sentinel, .sentinel, .sentinel, .sentinel, .sentinel], laidTests := true, laidLooks := .later }
def RpfSaysUptoCardSaid : Prop := Claim7.holds Tryz.pinned (.plain (OpenSpec.upto rpfSaysSpec)) rpfSaysUptoCard
end Rows
end Go.Proofs.YtelbgkknneljeaaGreatDoor
