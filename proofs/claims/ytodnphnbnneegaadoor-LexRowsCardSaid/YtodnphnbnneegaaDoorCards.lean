/-
  DERIVED. GIVEN WITH THE SEED: THE CARDS: each row of YtodnphnbnneegaaDoorRows.lean that lists a variable, with what it lists TIED to the program's text (the seventh form; the later family's looks); each row that meets fmt, with fmt's text TOLD by the authors' own Lean function (tested against real Go, not proved from fmt's source: count such statements apart). THE CARD IS WHAT COUNTS. Prove the row's statement (the work); the ties are given (YtodnphnbnneegaaDoorTie.lean); close each card by the builder's one call (the guide's Derived/Test/ToyasCard.lean, 'card_holds'). Laid BY PROGRAM, IN A SANDBOX (cutbox-door.mjs). By AI agents, Wed Nov 11 2026. No macro, syntax, notation, axiom, sorry.
-/
import Derived.Test.YtodnphnbnneegaaDoorRows
import GoSem.ClaimSeven
namespace Go.Proofs.YtodnphnbnneegaaDoor
namespace Rows

/-- THE TIED CARD OF 'rivuletlaw1.AddrBytes'. -/
def addrBytesCard : Claim7 := { stood := { row := addrBytesRow, standIns := [], harness := (true, "51524590b1e05bbf32c980cfee5db5dd4f5c53a08aa718ad07c1da4d28378747"), looks := true }, kinds := [], alts := [], laidByText := true, laidKinds := [.data, .data, .data], laidTests := true, laidLooks := .later }
def AddrBytesCardSaid : Prop := Claim7.holds Tryd.pinned (.plain (OpenSpec.ofChange addrBytesSpec)) addrBytesCard

/-- THE TIED CARD OF 'rivuletlaw1.AddrMasks'. -/
def addrMasksCard : Claim7 := { stood := { row := addrMasksRow, standIns := [], harness := (true, "51524590b1e05bbf32c980cfee5db5dd4f5c53a08aa718ad07c1da4d28378747"), looks := true }, kinds := [], alts := [], laidByText := true, laidKinds := [.data, .data, .data], laidTests := true, laidLooks := .later }
def AddrMasksCardSaid : Prop := Claim7.holds Tryd.pinned (.plain (OpenSpec.ofChange addrMasksSpec)) addrMasksCard

/-- THE TIED CARD OF 'rivuletlaw5.LexMany'. -/
def lexManyCard : Claim7 := { stood := { row := lexManyRow, standIns := [], harness := (true, "51524590b1e05bbf32c980cfee5db5dd4f5c53a08aa718ad07c1da4d28378747"), looks := true }, kinds := [], alts := [], laidByText := true, laidKinds := [.data, .sentinel, .sentinel, .sentinel, .sentinel, .sentinel, .sentinel, .sentinel, .sentinel, .sentinel, .sentinel, .sentinel, .sentinel, .sentinel, .sentinel, .pinned], laidTests := true, laidLooks := .later }
def LexManyCardSaid : Prop := Claim7.holds Tryd.pinned (.plain (OpenSpec.ofChange lexManySpec)) lexManyCard

/-- THE TIED CARD OF 'rivuletlaw5.LexNames'. -/
def lexNamesCard : Claim7 := { stood := { row := lexNamesRow, standIns := [], harness := (true, "51524590b1e05bbf32c980cfee5db5dd4f5c53a08aa718ad07c1da4d28378747"), looks := true }, kinds := [], alts := [], laidByText := true, laidKinds := [.data, .sentinel, .sentinel, .sentinel, .sentinel, .sentinel, .sentinel, .sentinel, .sentinel, .sentinel, .sentinel, .sentinel, .sentinel, .sentinel, .sentinel, .pinned], laidTests := true, laidLooks := .later }
def LexNamesCardSaid : Prop := Claim7.holds Tryd.pinned (.plain (OpenSpec.ofChange lexNamesSpec)) lexNamesCard

/-- THE TIED CARD OF 'rivuletlaw5.LexRows'. -/
def lexRowsCard : Claim7 := { stood := { row := lexRowsRow, standIns := [], harness := (true, "51524590b1e05bbf32c980cfee5db5dd4f5c53a08aa718ad07c1da4d28378747"), looks := true }, kinds := [], alts := [], laidByText := true, laidKinds := [.data, .data, .data, .data, .sentinel, .pinned], laidTests := true, laidLooks := .later }
def LexRowsCardSaid : Prop := Claim7.holds Tryd.pinned (.plain (OpenSpec.ofChange lexRowsSpec)) lexRowsCard

/-- THE TIED CARD OF 'rivuletlaw5.LexNumbers'. -/
def lexNumbersCard : Claim7 := { stood := { row := lexNumbersRow, standIns := [], harness := (true, "51524590b1e05bbf32c980cfee5db5dd4f5c53a08aa718ad07c1da4d28378747"), looks := true }, kinds := [], alts := [], laidByText := true, laidKinds := [.data, .data, .data, .data, .sentinel, .sentinel, .sentinel, .sentinel, .sentinel, .sentinel, .sentinel, .sentinel, .sentinel, .sentinel, .sentinel, .sentinel, .sentinel, .sentinel, .sentinel, .sentinel, .pinned], laidTests := true, laidLooks := .later }
def LexNumbersCardSaid : Prop := Claim7.holds Tryd.pinned (.plain (OpenSpec.ofChange lexNumbersSpec)) lexNumbersCard

/-- THE TIED CARD OF 'rivuletlaw5.LexSays'. -/
def lexSaysCard : Claim7 := { stood := { row := lexSaysRow, standIns := [], harness := (true, "51524590b1e05bbf32c980cfee5db5dd4f5c53a08aa718ad07c1da4d28378747"), looks := true }, kinds := [], alts := [], laidByText := true, laidKinds := [.data, .data, .data, .data, .sentinel, .sentinel, .sentinel, .sentinel, .sentinel, .sentinel, .sentinel, .sentinel, .sentinel, .sentinel, .sentinel, .sentinel, .sentinel, .sentinel, .sentinel, .sentinel, .pinned], laidTests := true, laidLooks := .later }
def LexSaysCardSaid : Prop := Claim7.holds Tryd.pinned (.plain (OpenSpec.ofChange lexSaysSpec)) lexSaysCard

/-- THE TIED CARD OF 'rivuletlaw1.AddrPrefixes'. -/
def addrPrefixesCard : Claim7 := { stood := { row := addrPrefixesRow, standIns := [], harness := (true, "51524590b1e05bbf32c980cfee5db5dd4f5c53a08aa718ad07c1da4d28378747"), looks := true }, kinds := [], alts := [], laidByText := true, laidKinds := [.data, .data, .data, .data, .sentinel, .sentinel, .sentinel, .sentinel, .sentinel, .sentinel, .sentinel, .sentinel, .sentinel, .sentinel, .sentinel, .sentinel, .sentinel, .sentinel, .sentinel, .sentinel, .pinned], laidTests := true, laidLooks := .later }
def AddrPrefixesCardSaid : Prop := Claim7.holds Tryd.pinned (.plain (OpenSpec.ofChange addrPrefixesSpec)) addrPrefixesCard

/-- THE TIED CARD OF 'rivuletlaw1.AddrGroups'. -/
def addrGroupsCard : Claim7 := { stood := { row := addrGroupsRow, standIns := [], harness := (true, "51524590b1e05bbf32c980cfee5db5dd4f5c53a08aa718ad07c1da4d28378747"), looks := true }, kinds := [], alts := [], laidByText := true, laidKinds := [.data, .data, .data, .data, .sentinel, .sentinel, .sentinel, .pinned], laidTests := true, laidLooks := .later }
def AddrGroupsCardSaid : Prop := Claim7.holds Tryd.pinned (.plain (OpenSpec.ofChange addrGroupsSpec)) addrGroupsCard

/-- THE TIED CARD OF 'rivuletlaw1.AddrBack'. -/
def addrBackCard : Claim7 := { stood := { row := addrBackRow, standIns := [], harness := (true, "51524590b1e05bbf32c980cfee5db5dd4f5c53a08aa718ad07c1da4d28378747"), looks := true }, kinds := [], alts := [], laidByText := true, laidKinds := [.data, .data, .data, .data, .sentinel, .sentinel, .sentinel, .pinned], laidTests := true, laidLooks := .later }
def AddrBackCardSaid : Prop := Claim7.holds Tryd.pinned (.plain (OpenSpec.ofChange addrBackSpec)) addrBackCard

/-- THE TIED CARD OF 'rivuletlaw1.AddrSays'. -/
def addrSaysCard : Claim7 := { stood := { row := addrSaysRow, standIns := [], harness := (true, "51524590b1e05bbf32c980cfee5db5dd4f5c53a08aa718ad07c1da4d28378747"), looks := true }, kinds := [], alts := [], laidByText := true, laidKinds := [.data, .data, .data, .data, .sentinel, .sentinel, .sentinel, .sentinel, .sentinel, .sentinel, .sentinel, .sentinel, .sentinel, .sentinel, .sentinel, .sentinel, .sentinel, .sentinel, .sentinel, .sentinel, .pinned], laidTests := true, laidLooks := .later }
def AddrSaysCardSaid : Prop := Claim7.holds Tryd.pinned (.plain (OpenSpec.ofChange addrSaysSpec)) addrSaysCard

/-- THE SECOND FORM's CARD OF 'rivuletlaw1.AddrBytes'. -/
def addrBytesUptoCard : Claim7 := { stood := { row := addrBytesUptoRow, standIns := [], harness := (true, "51524590b1e05bbf32c980cfee5db5dd4f5c53a08aa718ad07c1da4d28378747"), looks := true }, kinds := [], alts := [], laidByText := true, laidKinds := [.data, .data, .data], laidTests := true, laidLooks := .later }
def AddrBytesUptoCardSaid : Prop := Claim7.holds Tryd.pinned (.plain (OpenSpec.upto addrBytesSpec)) addrBytesUptoCard

/-- THE SECOND FORM's CARD OF 'rivuletlaw1.AddrMasks'. -/
def addrMasksUptoCard : Claim7 := { stood := { row := addrMasksUptoRow, standIns := [], harness := (true, "51524590b1e05bbf32c980cfee5db5dd4f5c53a08aa718ad07c1da4d28378747"), looks := true }, kinds := [], alts := [], laidByText := true, laidKinds := [.data, .data, .data], laidTests := true, laidLooks := .later }
def AddrMasksUptoCardSaid : Prop := Claim7.holds Tryd.pinned (.plain (OpenSpec.upto addrMasksSpec)) addrMasksUptoCard

/-- THE SECOND FORM's CARD OF 'rivuletlaw5.LexMany'. -/
def lexManyUptoCard : Claim7 := { stood := { row := lexManyUptoRow, standIns := [], harness := (true, "51524590b1e05bbf32c980cfee5db5dd4f5c53a08aa718ad07c1da4d28378747"), looks := true }, kinds := [], alts := [], laidByText := true, laidKinds := [.data, .sentinel, .sentinel, .sentinel, .sentinel, .sentinel, .sentinel, .sentinel, .sentinel, .sentinel, .sentinel, .sentinel, .sentinel, .sentinel, .sentinel, .pinned], laidTests := true, laidLooks := .later }
def LexManyUptoCardSaid : Prop := Claim7.holds Tryd.pinned (.plain (OpenSpec.upto lexManySpec)) lexManyUptoCard

/-- THE SECOND FORM's CARD OF 'rivuletlaw5.LexNames'. -/
def lexNamesUptoCard : Claim7 := { stood := { row := lexNamesUptoRow, standIns := [], harness := (true, "51524590b1e05bbf32c980cfee5db5dd4f5c53a08aa718ad07c1da4d28378747"), looks := true }, kinds := [], alts := [], laidByText := true, laidKinds := [.data, .sentinel, .sentinel, .sentinel, .sentinel, .sentinel, .sentinel, .sentinel, .sentinel, .sentinel, .sentinel, .sentinel, .sentinel, .sentinel, .sentinel, .pinned], laidTests := true, laidLooks := .later }
def LexNamesUptoCardSaid : Prop := Claim7.holds Tryd.pinned (.plain (OpenSpec.upto lexNamesSpec)) lexNamesUptoCard

/-- THE SECOND FORM's CARD OF 'rivuletlaw5.LexRows'. -/
def lexRowsUptoCard : Claim7 := { stood := { row := lexRowsUptoRow, standIns := [], harness := (true, "51524590b1e05bbf32c980cfee5db5dd4f5c53a08aa718ad07c1da4d28378747"), looks := true }, kinds := [], alts := [], laidByText := true, laidKinds := [.data, .data, .data, .data, .sentinel, .pinned], laidTests := true, laidLooks := .later }
def LexRowsUptoCardSaid : Prop := Claim7.holds Tryd.pinned (.plain (OpenSpec.upto lexRowsSpec)) lexRowsUptoCard

/-- THE SECOND FORM's CARD OF 'rivuletlaw5.LexNumbers'. -/
def lexNumbersUptoCard : Claim7 := { stood := { row := lexNumbersUptoRow, standIns := [], harness := (true, "51524590b1e05bbf32c980cfee5db5dd4f5c53a08aa718ad07c1da4d28378747"), looks := true }, kinds := [], alts := [], laidByText := true, laidKinds := [.data, .data, .data, .data, .sentinel, .sentinel, .sentinel, .sentinel, .sentinel, .sentinel, .sentinel, .sentinel, .sentinel, .sentinel, .sentinel, .sentinel, .sentinel, .sentinel, .sentinel, .sentinel, .pinned], laidTests := true, laidLooks := .later }
def LexNumbersUptoCardSaid : Prop := Claim7.holds Tryd.pinned (.plain (OpenSpec.upto lexNumbersSpec)) lexNumbersUptoCard

/-- THE SECOND FORM's CARD OF 'rivuletlaw5.LexSays'. -/
def lexSaysUptoCard : Claim7 := { stood := { row := lexSaysUptoRow, standIns := [], harness := (true, "51524590b1e05bbf32c980cfee5db5dd4f5c53a08aa718ad07c1da4d28378747"), looks := true }, kinds := [], alts := [], laidByText := true, laidKinds := [.data, .data, .data, .data, .sentinel, .sentinel, .sentinel, .sentinel, .sentinel, .sentinel, .sentinel, .sentinel, .sentinel, .sentinel, .sentinel, .sentinel, .sentinel, .sentinel, .sentinel, .sentinel, .pinned], laidTests := true, laidLooks := .later }
def LexSaysUptoCardSaid : Prop := Claim7.holds Tryd.pinned (.plain (OpenSpec.upto lexSaysSpec)) lexSaysUptoCard

/-- THE SECOND FORM's CARD OF 'rivuletlaw1.AddrPrefixes'. -/
def addrPrefixesUptoCard : Claim7 := { stood := { row := addrPrefixesUptoRow, standIns := [], harness := (true, "51524590b1e05bbf32c980cfee5db5dd4f5c53a08aa718ad07c1da4d28378747"), looks := true }, kinds := [], alts := [], laidByText := true, laidKinds := [.data, .data, .data, .data, .sentinel, .sentinel, .sentinel, .sentinel, .sentinel, .sentinel, .sentinel, .sentinel, .sentinel, .sentinel, .sentinel, .sentinel, .sentinel, .sentinel, .sentinel, .sentinel, .pinned], laidTests := true, laidLooks := .later }
def AddrPrefixesUptoCardSaid : Prop := Claim7.holds Tryd.pinned (.plain (OpenSpec.upto addrPrefixesSpec)) addrPrefixesUptoCard

/-- THE SECOND FORM's CARD OF 'rivuletlaw1.AddrGroups'. -/
def addrGroupsUptoCard : Claim7 := { stood := { row := addrGroupsUptoRow, standIns := [], harness := (true, "51524590b1e05bbf32c980cfee5db5dd4f5c53a08aa718ad07c1da4d28378747"), looks := true }, kinds := [], alts := [], laidByText := true, laidKinds := [.data, .data, .data, .data, .sentinel, .sentinel, .sentinel, .pinned], laidTests := true, laidLooks := .later }
def AddrGroupsUptoCardSaid : Prop := Claim7.holds Tryd.pinned (.plain (OpenSpec.upto addrGroupsSpec)) addrGroupsUptoCard

/-- THE SECOND FORM's CARD OF 'rivuletlaw1.AddrBack'. -/
def addrBackUptoCard : Claim7 := { stood := { row := addrBackUptoRow, standIns := [], harness := (true, "51524590b1e05bbf32c980cfee5db5dd4f5c53a08aa718ad07c1da4d28378747"), looks := true }, kinds := [], alts := [], laidByText := true, laidKinds := [.data, .data, .data, .data, .sentinel, .sentinel, .sentinel, .pinned], laidTests := true, laidLooks := .later }
def AddrBackUptoCardSaid : Prop := Claim7.holds Tryd.pinned (.plain (OpenSpec.upto addrBackSpec)) addrBackUptoCard

/-- THE SECOND FORM's CARD OF 'rivuletlaw1.AddrSays'. -/
def addrSaysUptoCard : Claim7 := { stood := { row := addrSaysUptoRow, standIns := [], harness := (true, "51524590b1e05bbf32c980cfee5db5dd4f5c53a08aa718ad07c1da4d28378747"), looks := true }, kinds := [], alts := [], laidByText := true, laidKinds := [.data, .data, .data, .data, .sentinel, .sentinel, .sentinel, .sentinel, .sentinel, .sentinel, .sentinel, .sentinel, .sentinel, .sentinel, .sentinel, .sentinel, .sentinel, .sentinel, .sentinel, .sentinel, .pinned], laidTests := true, laidLooks := .later }
def AddrSaysUptoCardSaid : Prop := Claim7.holds Tryd.pinned (.plain (OpenSpec.upto addrSaysSpec)) addrSaysUptoCard
end Rows
end Go.Proofs.YtodnphnbnneegaaDoor
